/-
  NARROWER THAN 'FOR EVERY INPUT', by the rows' own cells (each row's printed sentence says how): ScriptcodeAssemble: laid · ScriptcodeDecode: laid · ScriptcodeCanonical: laid · ScriptcodeLayout: laid · ScriptcodeLabels: laid · ScriptcodeBackward: laid · ScriptcodeRoundTrips: laid · ScriptcodeCheck: laid.
  DERIVED. THE GIVEN ROWS OF THIS SEAT. 8 by the template 'for every input the law returns true; each argument reads behind the call as it read before'; 0 by the template 'total and deterministic' (their statements: YtonnjokjbknngaaDoorTotals.lean).
  GIVEN WITH THE SEED: the statements are not yours to turn. If you find one false, say at which input.
  Laid BY PROGRAM, IN A SANDBOX (cutbox-rows.mjs): the forced cells as the released guide's own fill.sh prints them over the translation ec9544849bdcf968… (all of the seat's roots in one cut). By AI agents, Wed Nov 11 2026. No macro, syntax, notation, axiom, sorry.
-/
import Derived.Test.YtonnjokjbknngaaDoorChecked
import GoSem.PinnedTables
import GoSem.Claim
import GoSem.ClaimJoined
import GoSem.ClaimMapViews
import Derived.JoinedTies
import Derived.KernelRfl
namespace Go.Proofs.YtonnjokjbknngaaDoor
/- THE CELL 'sum', in the pinned program and in every row, IS THE sha256 OF THE DUMP (.gsa) THAT YtonnjokjbknngaaDoorProg.lean LOADS. Nothing in Lean hashes anything: it is a label: what it is worth is what the hold of that sum in a sandbox is worth. -/
noncomputable def Tryd.pinned : Pinned := { name := "ytonnjokjbknngaadoor", sum := "ec9544849bdcf968de33243696ae3ff31e5b74aa36f78befb7cd3e0353992997", checked := Tryd.checked }
namespace Rows
def none {H : Type} : Left H := { results := [], args := [] }

/- WHAT THE LISTED PACKAGE-LEVEL VARIABLES READ AS WHEN THE CALL BEGINS. Each datum BY PROGRAM (the guide's laid-datum.mjs) off the statement by which the dump's own 'gosem.cut.vars' lays the variable. In a bare row this is a premise. The card (YtonnjokjbknngaaDoorCards.lean) ties it to the program's text. -/
def laid_unicode_utf8_acceptRanges {H : Type} : DataW H := .agg [.agg [.lit (.int .u8 128), .lit (.int .u8 191)], .agg [.lit (.int .u8 160), .lit (.int .u8 191)], .agg [.lit (.int .u8 128), .lit (.int .u8 159)], .agg [.lit (.int .u8 144), .lit (.int .u8 191)], .agg [.lit (.int .u8 128), .lit (.int .u8 143)], .agg [.lit (.int .u8 0), .lit (.int .u8 0)], .agg [.lit (.int .u8 0), .lit (.int .u8 0)], .agg [.lit (.int .u8 0), .lit (.int .u8 0)], .agg [.lit (.int .u8 0), .lit (.int .u8 0)], .agg [.lit (.int .u8 0), .lit (.int .u8 0)], .agg [.lit (.int .u8 0), .lit (.int .u8 0)], .agg [.lit (.int .u8 0), .lit (.int .u8 0)], .agg [.lit (.int .u8 0), .lit (.int .u8 0)], .agg [.lit (.int .u8 0), .lit (.int .u8 0)], .agg [.lit (.int .u8 0), .lit (.int .u8 0)], .agg [.lit (.int .u8 0), .lit (.int .u8 0)]]
/-- One of Go's own tables, pinned by name: the form's constant. -/
def laid_unicode_utf8_first : DataW Unit := Go.Pinned.utf8First
def laid_math_bits_deBruijn32tab {H : Type} : DataW H := .agg [.lit (.int .u8 0), .lit (.int .u8 1), .lit (.int .u8 28), .lit (.int .u8 2), .lit (.int .u8 29), .lit (.int .u8 14), .lit (.int .u8 24), .lit (.int .u8 3), .lit (.int .u8 30), .lit (.int .u8 22), .lit (.int .u8 20), .lit (.int .u8 15), .lit (.int .u8 25), .lit (.int .u8 17), .lit (.int .u8 4), .lit (.int .u8 8), .lit (.int .u8 31), .lit (.int .u8 27), .lit (.int .u8 13), .lit (.int .u8 23), .lit (.int .u8 21), .lit (.int .u8 19), .lit (.int .u8 16), .lit (.int .u8 7), .lit (.int .u8 26), .lit (.int .u8 12), .lit (.int .u8 18), .lit (.int .u8 6), .lit (.int .u8 11), .lit (.int .u8 5), .lit (.int .u8 10), .lit (.int .u8 9)]
def laid_math_bits_deBruijn64tab {H : Type} : DataW H := .agg [.lit (.int .u8 0), .lit (.int .u8 1), .lit (.int .u8 56), .lit (.int .u8 2), .lit (.int .u8 57), .lit (.int .u8 49), .lit (.int .u8 28), .lit (.int .u8 3), .lit (.int .u8 61), .lit (.int .u8 58), .lit (.int .u8 42), .lit (.int .u8 50), .lit (.int .u8 38), .lit (.int .u8 29), .lit (.int .u8 17), .lit (.int .u8 4), .lit (.int .u8 62), .lit (.int .u8 47), .lit (.int .u8 59), .lit (.int .u8 36), .lit (.int .u8 45), .lit (.int .u8 43), .lit (.int .u8 51), .lit (.int .u8 22), .lit (.int .u8 53), .lit (.int .u8 39), .lit (.int .u8 33), .lit (.int .u8 30), .lit (.int .u8 24), .lit (.int .u8 18), .lit (.int .u8 12), .lit (.int .u8 5), .lit (.int .u8 63), .lit (.int .u8 55), .lit (.int .u8 48), .lit (.int .u8 27), .lit (.int .u8 60), .lit (.int .u8 41), .lit (.int .u8 37), .lit (.int .u8 16), .lit (.int .u8 46), .lit (.int .u8 35), .lit (.int .u8 44), .lit (.int .u8 21), .lit (.int .u8 52), .lit (.int .u8 32), .lit (.int .u8 23), .lit (.int .u8 11), .lit (.int .u8 54), .lit (.int .u8 26), .lit (.int .u8 40), .lit (.int .u8 15), .lit (.int .u8 34), .lit (.int .u8 20), .lit (.int .u8 31), .lit (.int .u8 10), .lit (.int .u8 25), .lit (.int .u8 14), .lit (.int .u8 19), .lit (.int .u8 9), .lit (.int .u8 13), .lit (.int .u8 8), .lit (.int .u8 7), .lit (.int .u8 6)]
def laid_internal_strconv_uint64pow10 {H : Type} : DataW H := .agg [.lit (.int .u64 1), .lit (.int .u64 10), .lit (.int .u64 100), .lit (.int .u64 1000), .lit (.int .u64 10000), .lit (.int .u64 100000), .lit (.int .u64 1000000), .lit (.int .u64 10000000), .lit (.int .u64 100000000), .lit (.int .u64 1000000000), .lit (.int .u64 10000000000), .lit (.int .u64 100000000000), .lit (.int .u64 1000000000000), .lit (.int .u64 10000000000000), .lit (.int .u64 100000000000000), .lit (.int .u64 1000000000000000), .lit (.int .u64 10000000000000000), .lit (.int .u64 100000000000000000), .lit (.int .u64 1000000000000000000), .lit (.int .u64 10000000000000000000)]

/-- 'narratorlaw46.ScriptcodeAssemble': WHATEVER THE INPUT: true; the input reads as it did. -/
def scriptcodeAssembleSpec : ChangeSpec := { name := "scriptcodeAssemble", fn := fun _ => fun
  | [d] => { results := [.lit (.bool true)], args := [d] }
  | _ => none }
def scriptcodeAssembleRow : OpenClaim := { program := "ytonnjokjbknngaadoor", sum := "ec9544849bdcf968de33243696ae3ff31e5b74aa36f78befb7cd3e0353992997", func := "narrator/narratorlaw46.ScriptcodeAssemble", spec := "scriptcodeAssemble", inPlace := ["internal/bytealg.CountString", "internal/bytealg.IndexByteString", "internal/bytealg.IndexString"], unfollowed := true, recurses := true, named := ["unicode/utf8.first", "unicode/utf8.acceptRanges", "internal/bytealg.MaxLen"], apart := false, laid := [("unicode/utf8.acceptRanges", laid_unicode_utf8_acceptRanges), ("unicode/utf8.first", laid_unicode_utf8_first)] }
def ScriptcodeAssembleSaid : Prop := scriptcodeAssembleRow.holds Tryd.pinned (OpenSpec.ofChange scriptcodeAssembleSpec)

/-- ITS FALSE NEIGHBOUR: 'it returns false'. Refute it at one input. -/
def scriptcodeAssembleWrong : ChangeSpec := { name := "scriptcodeAssemble", fn := fun _ => fun
  | [d] => { results := [.lit (.bool false)], args := [d] }
  | _ => none }
def ScriptcodeAssembleWrongFalsely : Prop := scriptcodeAssembleRow.holds Tryd.pinned (OpenSpec.ofChange scriptcodeAssembleWrong)

/-- 'narratorlaw46.ScriptcodeDecode': WHATEVER THE INPUT: true; the input reads as it did. -/
def scriptcodeDecodeSpec : ChangeSpec := { name := "scriptcodeDecode", fn := fun _ => fun
  | [d] => { results := [.lit (.bool true)], args := [d] }
  | _ => none }
def scriptcodeDecodeRow : OpenClaim := { program := "ytonnjokjbknngaadoor", sum := "ec9544849bdcf968de33243696ae3ff31e5b74aa36f78befb7cd3e0353992997", func := "narrator/narratorlaw46.ScriptcodeDecode", spec := "scriptcodeDecode", inPlace := ["internal/bytealg.CountString", "internal/bytealg.IndexByteString", "internal/bytealg.IndexString"], unfollowed := true, recurses := true, named := ["unicode/utf8.first", "unicode/utf8.acceptRanges", "internal/bytealg.MaxLen"], apart := false, laid := [("unicode/utf8.acceptRanges", laid_unicode_utf8_acceptRanges), ("unicode/utf8.first", laid_unicode_utf8_first)] }
def ScriptcodeDecodeSaid : Prop := scriptcodeDecodeRow.holds Tryd.pinned (OpenSpec.ofChange scriptcodeDecodeSpec)

/-- ITS FALSE NEIGHBOUR: 'it returns false'. Refute it at one input. -/
def scriptcodeDecodeWrong : ChangeSpec := { name := "scriptcodeDecode", fn := fun _ => fun
  | [d] => { results := [.lit (.bool false)], args := [d] }
  | _ => none }
def ScriptcodeDecodeWrongFalsely : Prop := scriptcodeDecodeRow.holds Tryd.pinned (OpenSpec.ofChange scriptcodeDecodeWrong)

/-- 'narratorlaw46.ScriptcodeCanonical': WHATEVER THE INPUT: true; the input reads as it did. -/
def scriptcodeCanonicalSpec : ChangeSpec := { name := "scriptcodeCanonical", fn := fun _ => fun
  | [d1, d2] => { results := [.lit (.bool true)], args := [d1, d2] }
  | _ => none }
def scriptcodeCanonicalRow : OpenClaim := { program := "ytonnjokjbknngaadoor", sum := "ec9544849bdcf968de33243696ae3ff31e5b74aa36f78befb7cd3e0353992997", func := "narrator/narratorlaw46.ScriptcodeCanonical", spec := "scriptcodeCanonical", inPlace := ["internal/bytealg.CountString", "internal/bytealg.IndexByteString", "internal/bytealg.IndexString"], unfollowed := true, recurses := true, named := ["unicode/utf8.first", "unicode/utf8.acceptRanges", "internal/bytealg.MaxLen"], apart := false, laid := [("unicode/utf8.acceptRanges", laid_unicode_utf8_acceptRanges), ("unicode/utf8.first", laid_unicode_utf8_first)] }
def ScriptcodeCanonicalSaid : Prop := scriptcodeCanonicalRow.holds Tryd.pinned (OpenSpec.ofChange scriptcodeCanonicalSpec)

/-- ITS FALSE NEIGHBOUR: 'it returns false'. Refute it at one input. -/
def scriptcodeCanonicalWrong : ChangeSpec := { name := "scriptcodeCanonical", fn := fun _ => fun
  | [d1, d2] => { results := [.lit (.bool false)], args := [d1, d2] }
  | _ => none }
def ScriptcodeCanonicalWrongFalsely : Prop := scriptcodeCanonicalRow.holds Tryd.pinned (OpenSpec.ofChange scriptcodeCanonicalWrong)

/-- 'narratorlaw46.ScriptcodeLayout': WHATEVER THE INPUT: true; the input reads as it did. -/
def scriptcodeLayoutSpec : ChangeSpec := { name := "scriptcodeLayout", fn := fun _ => fun
  | [d1, d2] => { results := [.lit (.bool true)], args := [d1, d2] }
  | _ => none }
def scriptcodeLayoutRow : OpenClaim := { program := "ytonnjokjbknngaadoor", sum := "ec9544849bdcf968de33243696ae3ff31e5b74aa36f78befb7cd3e0353992997", func := "narrator/narratorlaw46.ScriptcodeLayout", spec := "scriptcodeLayout", inPlace := ["internal/bytealg.IndexByteString", "internal/bytealg.IndexString", "internal/bytealg.CountString", "internal/abi.NoEscape", "internal/bytealg.MakeNoZero"], unfollowed := true, recurses := true, named := ["internal/bytealg.MaxLen", "unicode/utf8.first", "unicode/utf8.acceptRanges"], apart := false, laid := [("unicode/utf8.acceptRanges", laid_unicode_utf8_acceptRanges), ("unicode/utf8.first", laid_unicode_utf8_first)] }
def ScriptcodeLayoutSaid : Prop := scriptcodeLayoutRow.holds Tryd.pinned (OpenSpec.ofChange scriptcodeLayoutSpec)

/-- ITS FALSE NEIGHBOUR: 'it returns false'. Refute it at one input. -/
def scriptcodeLayoutWrong : ChangeSpec := { name := "scriptcodeLayout", fn := fun _ => fun
  | [d1, d2] => { results := [.lit (.bool false)], args := [d1, d2] }
  | _ => none }
def ScriptcodeLayoutWrongFalsely : Prop := scriptcodeLayoutRow.holds Tryd.pinned (OpenSpec.ofChange scriptcodeLayoutWrong)

/-- 'narratorlaw46.ScriptcodeLabels': WHATEVER THE INPUT: true; the input reads as it did. -/
def scriptcodeLabelsSpec : ChangeSpec := { name := "scriptcodeLabels", fn := fun _ => fun
  | [d1, d2, d3, d4, d5] => { results := [.lit (.bool true)], args := [d1, d2, d3, d4, d5] }
  | _ => none }
def scriptcodeLabelsRow : OpenClaim := { program := "ytonnjokjbknngaadoor", sum := "ec9544849bdcf968de33243696ae3ff31e5b74aa36f78befb7cd3e0353992997", func := "narrator/narratorlaw46.ScriptcodeLabels", spec := "scriptcodeLabels", inPlace := ["internal/abi.NoEscape", "internal/bytealg.MakeNoZero", "internal/bytealg.CountString", "internal/bytealg.IndexByteString", "internal/bytealg.IndexString"], unfollowed := true, recurses := true, named := ["unicode/utf8.first", "unicode/utf8.acceptRanges", "internal/bytealg.MaxLen"], apart := false, laid := [("unicode/utf8.acceptRanges", laid_unicode_utf8_acceptRanges), ("unicode/utf8.first", laid_unicode_utf8_first)] }
def ScriptcodeLabelsSaid : Prop := scriptcodeLabelsRow.holds Tryd.pinned (OpenSpec.ofChange scriptcodeLabelsSpec)

/-- ITS FALSE NEIGHBOUR: 'it returns false'. Refute it at one input. -/
def scriptcodeLabelsWrong : ChangeSpec := { name := "scriptcodeLabels", fn := fun _ => fun
  | [d1, d2, d3, d4, d5] => { results := [.lit (.bool false)], args := [d1, d2, d3, d4, d5] }
  | _ => none }
def ScriptcodeLabelsWrongFalsely : Prop := scriptcodeLabelsRow.holds Tryd.pinned (OpenSpec.ofChange scriptcodeLabelsWrong)

/-- 'narratorlaw46.ScriptcodeBackward': WHATEVER THE INPUT: true; the input reads as it did. -/
def scriptcodeBackwardSpec : ChangeSpec := { name := "scriptcodeBackward", fn := fun _ => fun
  | [d] => { results := [.lit (.bool true)], args := [d] }
  | _ => none }
def scriptcodeBackwardRow : OpenClaim := { program := "ytonnjokjbknngaadoor", sum := "ec9544849bdcf968de33243696ae3ff31e5b74aa36f78befb7cd3e0353992997", func := "narrator/narratorlaw46.ScriptcodeBackward", spec := "scriptcodeBackward", inPlace := ["internal/abi.NoEscape", "internal/bytealg.MakeNoZero", "internal/bytealg.CountString", "internal/bytealg.IndexByteString", "internal/bytealg.IndexString"], unfollowed := true, recurses := true, named := ["unicode/utf8.first", "unicode/utf8.acceptRanges", "internal/bytealg.MaxLen"], apart := false, laid := [("unicode/utf8.acceptRanges", laid_unicode_utf8_acceptRanges), ("unicode/utf8.first", laid_unicode_utf8_first)] }
def ScriptcodeBackwardSaid : Prop := scriptcodeBackwardRow.holds Tryd.pinned (OpenSpec.ofChange scriptcodeBackwardSpec)

/-- ITS FALSE NEIGHBOUR: 'it returns false'. Refute it at one input. -/
def scriptcodeBackwardWrong : ChangeSpec := { name := "scriptcodeBackward", fn := fun _ => fun
  | [d] => { results := [.lit (.bool false)], args := [d] }
  | _ => none }
def ScriptcodeBackwardWrongFalsely : Prop := scriptcodeBackwardRow.holds Tryd.pinned (OpenSpec.ofChange scriptcodeBackwardWrong)

/-- 'narratorlaw46.ScriptcodeRoundTrips': WHATEVER THE INPUT: true; the input reads as it did. -/
def scriptcodeRoundTripsSpec : ChangeSpec := { name := "scriptcodeRoundTrips", fn := fun _ => fun
  | [d] => { results := [.lit (.bool true)], args := [d] }
  | _ => none }
def scriptcodeRoundTripsRow : OpenClaim := { program := "ytonnjokjbknngaadoor", sum := "ec9544849bdcf968de33243696ae3ff31e5b74aa36f78befb7cd3e0353992997", func := "narrator/narratorlaw46.ScriptcodeRoundTrips", spec := "scriptcodeRoundTrips", inPlace := ["internal/bytealg.CountString", "internal/bytealg.IndexByteString", "internal/bytealg.IndexString", "internal/abi.NoEscape"], unfollowed := true, recurses := true, named := ["unicode/utf8.first", "unicode/utf8.acceptRanges", "internal/bytealg.MaxLen", "internal/strconv.uint64pow10", "math/bits.deBruijn32tab", "math/bits.deBruijn64tab"], apart := false, laid := [("math/bits.deBruijn32tab", laid_math_bits_deBruijn32tab), ("math/bits.deBruijn64tab", laid_math_bits_deBruijn64tab), ("internal/strconv.uint64pow10", laid_internal_strconv_uint64pow10), ("unicode/utf8.acceptRanges", laid_unicode_utf8_acceptRanges), ("unicode/utf8.first", laid_unicode_utf8_first)] }
def ScriptcodeRoundTripsSaid : Prop := scriptcodeRoundTripsRow.holds Tryd.pinned (OpenSpec.ofChange scriptcodeRoundTripsSpec)

/-- ITS FALSE NEIGHBOUR: 'it returns false'. Refute it at one input. -/
def scriptcodeRoundTripsWrong : ChangeSpec := { name := "scriptcodeRoundTrips", fn := fun _ => fun
  | [d] => { results := [.lit (.bool false)], args := [d] }
  | _ => none }
def ScriptcodeRoundTripsWrongFalsely : Prop := scriptcodeRoundTripsRow.holds Tryd.pinned (OpenSpec.ofChange scriptcodeRoundTripsWrong)

/-- 'narratorlaw46.ScriptcodeCheck': WHATEVER THE INPUT: true; the input reads as it did. -/
def scriptcodeCheckSpec : ChangeSpec := { name := "scriptcodeCheck", fn := fun _ => fun
  | [d] => { results := [.lit (.bool true)], args := [d] }
  | _ => none }
def scriptcodeCheckRow : OpenClaim := { program := "ytonnjokjbknngaadoor", sum := "ec9544849bdcf968de33243696ae3ff31e5b74aa36f78befb7cd3e0353992997", func := "narrator/narratorlaw46.ScriptcodeCheck", spec := "scriptcodeCheck", inPlace := ["internal/bytealg.CountString", "internal/bytealg.IndexByteString", "internal/bytealg.IndexString", "internal/abi.NoEscape", "internal/bytealg.MakeNoZero"], unfollowed := true, recurses := true, named := ["unicode/utf8.first", "unicode/utf8.acceptRanges", "internal/bytealg.MaxLen", "internal/strconv.uint64pow10", "math/bits.deBruijn32tab", "math/bits.deBruijn64tab"], apart := false, laid := [("math/bits.deBruijn32tab", laid_math_bits_deBruijn32tab), ("math/bits.deBruijn64tab", laid_math_bits_deBruijn64tab), ("internal/strconv.uint64pow10", laid_internal_strconv_uint64pow10), ("unicode/utf8.acceptRanges", laid_unicode_utf8_acceptRanges), ("unicode/utf8.first", laid_unicode_utf8_first)] }
def ScriptcodeCheckSaid : Prop := scriptcodeCheckRow.holds Tryd.pinned (OpenSpec.ofChange scriptcodeCheckSpec)

/-- ITS FALSE NEIGHBOUR: 'it returns false'. Refute it at one input. -/
def scriptcodeCheckWrong : ChangeSpec := { name := "scriptcodeCheck", fn := fun _ => fun
  | [d] => { results := [.lit (.bool false)], args := [d] }
  | _ => none }
def ScriptcodeCheckWrongFalsely : Prop := scriptcodeCheckRow.holds Tryd.pinned (OpenSpec.ofChange scriptcodeCheckWrong)

/- THE SECOND FORM. 'bulk': how many values and letters a reading holds, each counted each time it is reached (what is shared counts as often as it is met; a slice's spare places count too). A statement '..UptoSaid' is the law's where the arguments, and the package variables that the reading takes, are together of bulk at most 1048576: NARROWER than '..Said'. Prove '..Said' where nothing that the law and all that it calls make is longer than what came in: it says more and counts as full. Else prove '..UptoSaid'. A law counts once. -/
mutual
def uptoBulk {H : Type} : DataW H → Nat
  | .lit (.string bytes) => bytes.length + 1
  | .lit _ => 1
  | .nil => 1
  | .ptr d => uptoBulk d + 1
  | .slice elems spare => uptoBulkAll elems + uptoBulkAll spare + 1
  | .agg parts => uptoBulkAll parts + 1
  | .iface _ d => uptoBulk d + 1
  | .map entries => uptoBulkEntries entries + 1
  | .held _ => 1
def uptoBulkAll {H : Type} : List (DataW H) → Nat
  | [] => 0
  | d :: r => uptoBulk d + uptoBulkAll r
def uptoBulkEntries {H : Type} : List (Lit × DataW H) → Nat
  | [] => 0
  | x :: r => uptoBulkEntry x + uptoBulkEntries r
def uptoBulkEntry {H : Type} : Lit × DataW H → Nat
  | (.string bytes, d) => bytes.length + uptoBulk d + 1
  | (_, d) => uptoBulk d + 1
 end
def uptoSmall : (H : Type) → List (DataW H) → Bool := fun _ ds => decide (uptoBulkAll ds ≤ 1048576)
def OpenSpec.upto (s : _root_.Go.ChangeSpec) : _root_.Go.OpenSpec := { _root_.Go.OpenSpec.ofChange s with cond := some uptoSmall }

/-- 'narratorlaw46.ScriptcodeAssemble', WHERE WHAT IT READS IS OF BULK AT MOST 1048576: true; the input reads as it did. -/
def scriptcodeAssembleUptoRow : OpenClaim := { program := "ytonnjokjbknngaadoor", sum := "ec9544849bdcf968de33243696ae3ff31e5b74aa36f78befb7cd3e0353992997", func := "narrator/narratorlaw46.ScriptcodeAssemble", spec := "scriptcodeAssemble", inPlace := ["internal/bytealg.CountString", "internal/bytealg.IndexByteString", "internal/bytealg.IndexString"], unfollowed := true, recurses := true, named := ["unicode/utf8.first", "unicode/utf8.acceptRanges", "internal/bytealg.MaxLen"], apart := false, laid := [("unicode/utf8.acceptRanges", laid_unicode_utf8_acceptRanges), ("unicode/utf8.first", laid_unicode_utf8_first)], narrowed := true }
def ScriptcodeAssembleUptoSaid : Prop := scriptcodeAssembleUptoRow.holds Tryd.pinned (OpenSpec.upto scriptcodeAssembleSpec)

/-- 'narratorlaw46.ScriptcodeDecode', WHERE WHAT IT READS IS OF BULK AT MOST 1048576: true; the input reads as it did. -/
def scriptcodeDecodeUptoRow : OpenClaim := { program := "ytonnjokjbknngaadoor", sum := "ec9544849bdcf968de33243696ae3ff31e5b74aa36f78befb7cd3e0353992997", func := "narrator/narratorlaw46.ScriptcodeDecode", spec := "scriptcodeDecode", inPlace := ["internal/bytealg.CountString", "internal/bytealg.IndexByteString", "internal/bytealg.IndexString"], unfollowed := true, recurses := true, named := ["unicode/utf8.first", "unicode/utf8.acceptRanges", "internal/bytealg.MaxLen"], apart := false, laid := [("unicode/utf8.acceptRanges", laid_unicode_utf8_acceptRanges), ("unicode/utf8.first", laid_unicode_utf8_first)], narrowed := true }
def ScriptcodeDecodeUptoSaid : Prop := scriptcodeDecodeUptoRow.holds Tryd.pinned (OpenSpec.upto scriptcodeDecodeSpec)

/-- 'narratorlaw46.ScriptcodeCanonical', WHERE WHAT IT READS IS OF BULK AT MOST 1048576: true; the input reads as it did. -/
def scriptcodeCanonicalUptoRow : OpenClaim := { program := "ytonnjokjbknngaadoor", sum := "ec9544849bdcf968de33243696ae3ff31e5b74aa36f78befb7cd3e0353992997", func := "narrator/narratorlaw46.ScriptcodeCanonical", spec := "scriptcodeCanonical", inPlace := ["internal/bytealg.CountString", "internal/bytealg.IndexByteString", "internal/bytealg.IndexString"], unfollowed := true, recurses := true, named := ["unicode/utf8.first", "unicode/utf8.acceptRanges", "internal/bytealg.MaxLen"], apart := false, laid := [("unicode/utf8.acceptRanges", laid_unicode_utf8_acceptRanges), ("unicode/utf8.first", laid_unicode_utf8_first)], narrowed := true }
def ScriptcodeCanonicalUptoSaid : Prop := scriptcodeCanonicalUptoRow.holds Tryd.pinned (OpenSpec.upto scriptcodeCanonicalSpec)

/-- 'narratorlaw46.ScriptcodeLayout', WHERE WHAT IT READS IS OF BULK AT MOST 1048576: true; the input reads as it did. -/
def scriptcodeLayoutUptoRow : OpenClaim := { program := "ytonnjokjbknngaadoor", sum := "ec9544849bdcf968de33243696ae3ff31e5b74aa36f78befb7cd3e0353992997", func := "narrator/narratorlaw46.ScriptcodeLayout", spec := "scriptcodeLayout", inPlace := ["internal/bytealg.IndexByteString", "internal/bytealg.IndexString", "internal/bytealg.CountString", "internal/abi.NoEscape", "internal/bytealg.MakeNoZero"], unfollowed := true, recurses := true, named := ["internal/bytealg.MaxLen", "unicode/utf8.first", "unicode/utf8.acceptRanges"], apart := false, laid := [("unicode/utf8.acceptRanges", laid_unicode_utf8_acceptRanges), ("unicode/utf8.first", laid_unicode_utf8_first)], narrowed := true }
def ScriptcodeLayoutUptoSaid : Prop := scriptcodeLayoutUptoRow.holds Tryd.pinned (OpenSpec.upto scriptcodeLayoutSpec)

/-- 'narratorlaw46.ScriptcodeLabels', WHERE WHAT IT READS IS OF BULK AT MOST 1048576: true; the input reads as it did. -/
def scriptcodeLabelsUptoRow : OpenClaim := { program := "ytonnjokjbknngaadoor", sum := "ec9544849bdcf968de33243696ae3ff31e5b74aa36f78befb7cd3e0353992997", func := "narrator/narratorlaw46.ScriptcodeLabels", spec := "scriptcodeLabels", inPlace := ["internal/abi.NoEscape", "internal/bytealg.MakeNoZero", "internal/bytealg.CountString", "internal/bytealg.IndexByteString", "internal/bytealg.IndexString"], unfollowed := true, recurses := true, named := ["unicode/utf8.first", "unicode/utf8.acceptRanges", "internal/bytealg.MaxLen"], apart := false, laid := [("unicode/utf8.acceptRanges", laid_unicode_utf8_acceptRanges), ("unicode/utf8.first", laid_unicode_utf8_first)], narrowed := true }
def ScriptcodeLabelsUptoSaid : Prop := scriptcodeLabelsUptoRow.holds Tryd.pinned (OpenSpec.upto scriptcodeLabelsSpec)

/-- 'narratorlaw46.ScriptcodeBackward', WHERE WHAT IT READS IS OF BULK AT MOST 1048576: true; the input reads as it did. -/
def scriptcodeBackwardUptoRow : OpenClaim := { program := "ytonnjokjbknngaadoor", sum := "ec9544849bdcf968de33243696ae3ff31e5b74aa36f78befb7cd3e0353992997", func := "narrator/narratorlaw46.ScriptcodeBackward", spec := "scriptcodeBackward", inPlace := ["internal/abi.NoEscape", "internal/bytealg.MakeNoZero", "internal/bytealg.CountString", "internal/bytealg.IndexByteString", "internal/bytealg.IndexString"], unfollowed := true, recurses := true, named := ["unicode/utf8.first", "unicode/utf8.acceptRanges", "internal/bytealg.MaxLen"], apart := false, laid := [("unicode/utf8.acceptRanges", laid_unicode_utf8_acceptRanges), ("unicode/utf8.first", laid_unicode_utf8_first)], narrowed := true }
def ScriptcodeBackwardUptoSaid : Prop := scriptcodeBackwardUptoRow.holds Tryd.pinned (OpenSpec.upto scriptcodeBackwardSpec)

/-- 'narratorlaw46.ScriptcodeRoundTrips', WHERE WHAT IT READS IS OF BULK AT MOST 1048576: true; the input reads as it did. -/
def scriptcodeRoundTripsUptoRow : OpenClaim := { program := "ytonnjokjbknngaadoor", sum := "ec9544849bdcf968de33243696ae3ff31e5b74aa36f78befb7cd3e0353992997", func := "narrator/narratorlaw46.ScriptcodeRoundTrips", spec := "scriptcodeRoundTrips", inPlace := ["internal/bytealg.CountString", "internal/bytealg.IndexByteString", "internal/bytealg.IndexString", "internal/abi.NoEscape"], unfollowed := true, recurses := true, named := ["unicode/utf8.first", "unicode/utf8.acceptRanges", "internal/bytealg.MaxLen", "internal/strconv.uint64pow10", "math/bits.deBruijn32tab", "math/bits.deBruijn64tab"], apart := false, laid := [("math/bits.deBruijn32tab", laid_math_bits_deBruijn32tab), ("math/bits.deBruijn64tab", laid_math_bits_deBruijn64tab), ("internal/strconv.uint64pow10", laid_internal_strconv_uint64pow10), ("unicode/utf8.acceptRanges", laid_unicode_utf8_acceptRanges), ("unicode/utf8.first", laid_unicode_utf8_first)], narrowed := true }
def ScriptcodeRoundTripsUptoSaid : Prop := scriptcodeRoundTripsUptoRow.holds Tryd.pinned (OpenSpec.upto scriptcodeRoundTripsSpec)

/-- 'narratorlaw46.ScriptcodeCheck', WHERE WHAT IT READS IS OF BULK AT MOST 1048576: true; the input reads as it did. -/
def scriptcodeCheckUptoRow : OpenClaim := { program := "ytonnjokjbknngaadoor", sum := "ec9544849bdcf968de33243696ae3ff31e5b74aa36f78befb7cd3e0353992997", func := "narrator/narratorlaw46.ScriptcodeCheck", spec := "scriptcodeCheck", inPlace := ["internal/bytealg.CountString", "internal/bytealg.IndexByteString", "internal/bytealg.IndexString", "internal/abi.NoEscape", "internal/bytealg.MakeNoZero"], unfollowed := true, recurses := true, named := ["unicode/utf8.first", "unicode/utf8.acceptRanges", "internal/bytealg.MaxLen", "internal/strconv.uint64pow10", "math/bits.deBruijn32tab", "math/bits.deBruijn64tab"], apart := false, laid := [("math/bits.deBruijn32tab", laid_math_bits_deBruijn32tab), ("math/bits.deBruijn64tab", laid_math_bits_deBruijn64tab), ("internal/strconv.uint64pow10", laid_internal_strconv_uint64pow10), ("unicode/utf8.acceptRanges", laid_unicode_utf8_acceptRanges), ("unicode/utf8.first", laid_unicode_utf8_first)], narrowed := true }
def ScriptcodeCheckUptoSaid : Prop := scriptcodeCheckUptoRow.holds Tryd.pinned (OpenSpec.upto scriptcodeCheckSpec)

end Rows
end Go.Proofs.YtonnjokjbknngaaDoor
