/-
  NARROWER THAN 'FOR EVERY INPUT', by the rows' own cells (each row's printed sentence says how): ScriptLines: laid · ScriptRound: laid · ScriptApart: laid · ScriptRefused: laid · ScriptOne: laid · ScriptMany: laid.
  DERIVED. THE GIVEN ROWS OF THIS SEAT. 6 by the template 'for every input the law returns true; each argument reads behind the call as it read before'; 0 by the template 'total and deterministic' (their statements: YtbjkljmhhpoooaaDoorTotals.lean).
  GIVEN WITH THE SEED: the statements are not yours to turn. If you find one false, say at which input.
  Laid BY PROGRAM, IN A SANDBOX (cutbox-rows.mjs): the forced cells as the released guide's own fill.sh prints them over the translation 6e5fda33aacdf6b8… (all of the seat's roots in one cut). By AI agents, Wed Nov 11 2026. No macro, syntax, notation, axiom, sorry.
-/
import Derived.Test.YtbjkljmhhpoooaaDoorChecked
import GoSem.PinnedTables
import GoSem.Claim
import GoSem.ClaimJoined
import GoSem.ClaimMapViews
import Derived.JoinedTies
import Derived.KernelRfl
namespace Go.Proofs.YtbjkljmhhpoooaaDoor
/- THE CELL 'sum', in the pinned program and in every row, IS THE sha256 OF THE DUMP (.gsa) THAT YtbjkljmhhpoooaaDoorProg.lean LOADS. Nothing in Lean hashes anything: it is a label: what it is worth is what the hold of that sum in a sandbox is worth. -/
noncomputable def Tryd.pinned : Pinned := { name := "ytbjkljmhhpoooaadoor", sum := "6e5fda33aacdf6b838f4497ab7e9e016528d3c6f84c185859a3cccac8ca43b5e", checked := Tryd.checked }
namespace Rows
def none {H : Type} : Left H := { results := [], args := [] }

/- WHAT THE LISTED PACKAGE-LEVEL VARIABLES READ AS WHEN THE CALL BEGINS. Each datum BY PROGRAM (the guide's laid-datum.mjs) off the statement by which the dump's own 'gosem.cut.vars' lays the variable. In a bare row this is a premise. The card (YtbjkljmhhpoooaaDoorCards.lean) ties it to the program's text. -/
def laid_unicode_utf8_acceptRanges {H : Type} : DataW H := .agg [.agg [.lit (.int .u8 128), .lit (.int .u8 191)], .agg [.lit (.int .u8 160), .lit (.int .u8 191)], .agg [.lit (.int .u8 128), .lit (.int .u8 159)], .agg [.lit (.int .u8 144), .lit (.int .u8 191)], .agg [.lit (.int .u8 128), .lit (.int .u8 143)], .agg [.lit (.int .u8 0), .lit (.int .u8 0)], .agg [.lit (.int .u8 0), .lit (.int .u8 0)], .agg [.lit (.int .u8 0), .lit (.int .u8 0)], .agg [.lit (.int .u8 0), .lit (.int .u8 0)], .agg [.lit (.int .u8 0), .lit (.int .u8 0)], .agg [.lit (.int .u8 0), .lit (.int .u8 0)], .agg [.lit (.int .u8 0), .lit (.int .u8 0)], .agg [.lit (.int .u8 0), .lit (.int .u8 0)], .agg [.lit (.int .u8 0), .lit (.int .u8 0)], .agg [.lit (.int .u8 0), .lit (.int .u8 0)], .agg [.lit (.int .u8 0), .lit (.int .u8 0)]]
def laid_jotter_script_most {H : Type} : DataW H := .agg [.lit (.int .i64 64), .lit (.int .i64 64), .lit (.int .i64 4095), .lit (.int .i64 2047), .lit (.int .i64 63), .lit (.int .i64 255), .lit (.int .i64 262144), .lit (.int .i64 255)]
def laid_jotter_script_least {H : Type} : DataW H := .agg [.lit (.int .i64 1), .lit (.int .i64 0), .lit (.int .i64 0), .lit (.int .i64 0), .lit (.int .i64 0), .lit (.int .i64 1), .lit (.int .i64 0), .lit (.int .i64 0)]
def laid_jotter_script_verbs {H : Type} : DataW H := .slice [.agg [.lit (.string [105, 110, 115, 101, 114, 116]), .slice [.lit (.int .i64 0), .lit (.int .i64 2), .lit (.int .i64 8)] []], .agg [.lit (.string [100, 101, 108, 101, 116, 101]), .slice [.lit (.int .i64 0), .lit (.int .i64 2)] []], .agg [.lit (.string [116, 105, 99, 107]), .slice [.lit (.int .i64 1)] []], .agg [.lit (.string [100, 101, 108, 105, 118, 101, 114]), .slice [.lit (.int .i64 3)] []], .agg [.lit (.string [100, 114, 111, 112]), .slice [.lit (.int .i64 3)] []], .agg [.lit (.string [100, 111, 117, 98, 108, 101]), .slice [.lit (.int .i64 3)] []], .agg [.lit (.string [102, 108, 105, 112]), .slice [.lit (.int .i64 3), .lit (.int .i64 4), .lit (.int .i64 5)] []], .agg [.lit (.string [97, 108, 108]), .nil], .agg [.lit (.string [114, 111, 117, 110, 100]), .nil], .agg [.lit (.string [99, 114, 97, 115, 104]), .slice [.lit (.int .i64 6), .lit (.int .i64 6), .lit (.int .i64 7)] []], .agg [.lit (.string [98, 111, 111, 116]), .nil], .agg [.lit (.string [115, 116, 117, 109, 98, 108, 101]), .slice [.lit (.int .i64 6), .lit (.int .i64 6), .lit (.int .i64 7)] []], .agg [.lit (.string [102, 111, 114, 103, 101]), .slice [.lit (.int .i64 1), .lit (.int .i64 9)] []]] []
/-- One of Go's own tables, pinned by name: the form's constant. -/
def laid_unicode_utf8_first : DataW Unit := Go.Pinned.utf8First
def laid_math_bits_deBruijn32tab {H : Type} : DataW H := .agg [.lit (.int .u8 0), .lit (.int .u8 1), .lit (.int .u8 28), .lit (.int .u8 2), .lit (.int .u8 29), .lit (.int .u8 14), .lit (.int .u8 24), .lit (.int .u8 3), .lit (.int .u8 30), .lit (.int .u8 22), .lit (.int .u8 20), .lit (.int .u8 15), .lit (.int .u8 25), .lit (.int .u8 17), .lit (.int .u8 4), .lit (.int .u8 8), .lit (.int .u8 31), .lit (.int .u8 27), .lit (.int .u8 13), .lit (.int .u8 23), .lit (.int .u8 21), .lit (.int .u8 19), .lit (.int .u8 16), .lit (.int .u8 7), .lit (.int .u8 26), .lit (.int .u8 12), .lit (.int .u8 18), .lit (.int .u8 6), .lit (.int .u8 11), .lit (.int .u8 5), .lit (.int .u8 10), .lit (.int .u8 9)]
def laid_math_bits_deBruijn64tab {H : Type} : DataW H := .agg [.lit (.int .u8 0), .lit (.int .u8 1), .lit (.int .u8 56), .lit (.int .u8 2), .lit (.int .u8 57), .lit (.int .u8 49), .lit (.int .u8 28), .lit (.int .u8 3), .lit (.int .u8 61), .lit (.int .u8 58), .lit (.int .u8 42), .lit (.int .u8 50), .lit (.int .u8 38), .lit (.int .u8 29), .lit (.int .u8 17), .lit (.int .u8 4), .lit (.int .u8 62), .lit (.int .u8 47), .lit (.int .u8 59), .lit (.int .u8 36), .lit (.int .u8 45), .lit (.int .u8 43), .lit (.int .u8 51), .lit (.int .u8 22), .lit (.int .u8 53), .lit (.int .u8 39), .lit (.int .u8 33), .lit (.int .u8 30), .lit (.int .u8 24), .lit (.int .u8 18), .lit (.int .u8 12), .lit (.int .u8 5), .lit (.int .u8 63), .lit (.int .u8 55), .lit (.int .u8 48), .lit (.int .u8 27), .lit (.int .u8 60), .lit (.int .u8 41), .lit (.int .u8 37), .lit (.int .u8 16), .lit (.int .u8 46), .lit (.int .u8 35), .lit (.int .u8 44), .lit (.int .u8 21), .lit (.int .u8 52), .lit (.int .u8 32), .lit (.int .u8 23), .lit (.int .u8 11), .lit (.int .u8 54), .lit (.int .u8 26), .lit (.int .u8 40), .lit (.int .u8 15), .lit (.int .u8 34), .lit (.int .u8 20), .lit (.int .u8 31), .lit (.int .u8 10), .lit (.int .u8 25), .lit (.int .u8 14), .lit (.int .u8 19), .lit (.int .u8 9), .lit (.int .u8 13), .lit (.int .u8 8), .lit (.int .u8 7), .lit (.int .u8 6)]
def laid_internal_strconv_uint64pow10 {H : Type} : DataW H := .agg [.lit (.int .u64 1), .lit (.int .u64 10), .lit (.int .u64 100), .lit (.int .u64 1000), .lit (.int .u64 10000), .lit (.int .u64 100000), .lit (.int .u64 1000000), .lit (.int .u64 10000000), .lit (.int .u64 100000000), .lit (.int .u64 1000000000), .lit (.int .u64 10000000000), .lit (.int .u64 100000000000), .lit (.int .u64 1000000000000), .lit (.int .u64 10000000000000), .lit (.int .u64 100000000000000), .lit (.int .u64 1000000000000000), .lit (.int .u64 10000000000000000), .lit (.int .u64 100000000000000000), .lit (.int .u64 1000000000000000000), .lit (.int .u64 10000000000000000000)]
def laid_errors_errorType {H : Type} : DataW H := .iface "internal/reflectlite.rtype" (.agg [.ptr (.lit (.string [101, 114, 114, 111, 114]))])

/-- 'jotterlaw15.ScriptLines': WHATEVER THE INPUT: true; the input reads as it did. -/
def scriptLinesSpec : ChangeSpec := { name := "scriptLines", fn := fun _ => fun
  | [d] => { results := [.lit (.bool true)], args := [d] }
  | _ => none }
def scriptLinesRow : OpenClaim := { program := "ytbjkljmhhpoooaadoor", sum := "6e5fda33aacdf6b838f4497ab7e9e016528d3c6f84c185859a3cccac8ca43b5e", func := "jotter/jotterlaw15.ScriptLines", spec := "scriptLines", inPlace := ["internal/bytealg.IndexByteString", "internal/bytealg.IndexString", "internal/bytealg.CountString"], unfollowed := true, recurses := true, named := ["jotter/script.verbs", "internal/bytealg.MaxLen", "unicode/utf8.first", "unicode/utf8.acceptRanges", "jotter/script.least", "jotter/script.most"], leaving := true, apart := false, laid := [("unicode/utf8.acceptRanges", laid_unicode_utf8_acceptRanges), ("jotter/script.most", laid_jotter_script_most), ("jotter/script.least", laid_jotter_script_least), ("jotter/script.verbs", laid_jotter_script_verbs), ("unicode/utf8.first", laid_unicode_utf8_first)] }
def ScriptLinesSaid : Prop := scriptLinesRow.holds Tryd.pinned (OpenSpec.ofChange scriptLinesSpec)

/-- ITS FALSE NEIGHBOUR: 'it returns false'. Refute it at one input. -/
def scriptLinesWrong : ChangeSpec := { name := "scriptLines", fn := fun _ => fun
  | [d] => { results := [.lit (.bool false)], args := [d] }
  | _ => none }
def ScriptLinesWrongFalsely : Prop := scriptLinesRow.holds Tryd.pinned (OpenSpec.ofChange scriptLinesWrong)

/-- 'jotterlaw15.ScriptRound': WHATEVER THE INPUT: true; the input reads as it did. -/
def scriptRoundSpec : ChangeSpec := { name := "scriptRound", fn := fun _ => fun
  | [d1, d2, d3] => { results := [.lit (.bool true)], args := [d1, d2, d3] }
  | _ => none }
def scriptRoundRow : OpenClaim := { program := "ytbjkljmhhpoooaadoor", sum := "6e5fda33aacdf6b838f4497ab7e9e016528d3c6f84c185859a3cccac8ca43b5e", func := "jotter/jotterlaw15.ScriptRound", spec := "scriptRound", inPlace := ["internal/abi.NoEscape", "internal/bytealg.IndexByteString", "internal/bytealg.IndexString", "internal/bytealg.CountString"], unfollowed := true, recurses := true, named := ["internal/strconv.uint64pow10", "math/bits.deBruijn32tab", "math/bits.deBruijn64tab", "jotter/script.verbs", "internal/bytealg.MaxLen", "unicode/utf8.first", "unicode/utf8.acceptRanges", "jotter/script.least", "jotter/script.most"], leaving := true, apart := false, laid := [("math/bits.deBruijn32tab", laid_math_bits_deBruijn32tab), ("math/bits.deBruijn64tab", laid_math_bits_deBruijn64tab), ("internal/strconv.uint64pow10", laid_internal_strconv_uint64pow10), ("unicode/utf8.acceptRanges", laid_unicode_utf8_acceptRanges), ("jotter/script.most", laid_jotter_script_most), ("jotter/script.least", laid_jotter_script_least), ("jotter/script.verbs", laid_jotter_script_verbs), ("unicode/utf8.first", laid_unicode_utf8_first)] }
def ScriptRoundSaid : Prop := scriptRoundRow.holds Tryd.pinned (OpenSpec.ofChange scriptRoundSpec)

/-- ITS FALSE NEIGHBOUR: 'it returns false'. Refute it at one input. -/
def scriptRoundWrong : ChangeSpec := { name := "scriptRound", fn := fun _ => fun
  | [d1, d2, d3] => { results := [.lit (.bool false)], args := [d1, d2, d3] }
  | _ => none }
def ScriptRoundWrongFalsely : Prop := scriptRoundRow.holds Tryd.pinned (OpenSpec.ofChange scriptRoundWrong)

/-- 'jotterlaw15.ScriptApart': WHATEVER THE INPUT: true; the input reads as it did. -/
def scriptApartSpec : ChangeSpec := { name := "scriptApart", fn := fun _ => fun
  | [d1, d2] => { results := [.lit (.bool true)], args := [d1, d2] }
  | _ => none }
def scriptApartRow : OpenClaim := { program := "ytbjkljmhhpoooaadoor", sum := "6e5fda33aacdf6b838f4497ab7e9e016528d3c6f84c185859a3cccac8ca43b5e", func := "jotter/jotterlaw15.ScriptApart", spec := "scriptApart", inPlace := ["internal/bytealg.IndexByteString", "internal/bytealg.IndexString", "internal/bytealg.CountString", "internal/abi.NoEscape"], unfollowed := true, recurses := true, named := ["jotter/script.verbs", "internal/bytealg.MaxLen", "unicode/utf8.first", "unicode/utf8.acceptRanges", "jotter/script.least", "jotter/script.most", "internal/strconv.uint64pow10", "math/bits.deBruijn32tab", "math/bits.deBruijn64tab"], leaving := true, apart := false, laid := [("math/bits.deBruijn32tab", laid_math_bits_deBruijn32tab), ("math/bits.deBruijn64tab", laid_math_bits_deBruijn64tab), ("internal/strconv.uint64pow10", laid_internal_strconv_uint64pow10), ("unicode/utf8.acceptRanges", laid_unicode_utf8_acceptRanges), ("jotter/script.most", laid_jotter_script_most), ("jotter/script.least", laid_jotter_script_least), ("jotter/script.verbs", laid_jotter_script_verbs), ("unicode/utf8.first", laid_unicode_utf8_first)] }
def ScriptApartSaid : Prop := scriptApartRow.holds Tryd.pinned (OpenSpec.ofChange scriptApartSpec)

/-- ITS FALSE NEIGHBOUR: 'it returns false'. Refute it at one input. -/
def scriptApartWrong : ChangeSpec := { name := "scriptApart", fn := fun _ => fun
  | [d1, d2] => { results := [.lit (.bool false)], args := [d1, d2] }
  | _ => none }
def ScriptApartWrongFalsely : Prop := scriptApartRow.holds Tryd.pinned (OpenSpec.ofChange scriptApartWrong)

/-- 'jotterlaw15.ScriptRefused': WHATEVER THE INPUT: true; the input reads as it did. -/
def scriptRefusedSpec : ChangeSpec := { name := "scriptRefused", fn := fun _ => fun
  | [d] => { results := [.lit (.bool true)], args := [d] }
  | _ => none }
def scriptRefusedRow : OpenClaim := { program := "ytbjkljmhhpoooaadoor", sum := "6e5fda33aacdf6b838f4497ab7e9e016528d3c6f84c185859a3cccac8ca43b5e", func := "jotter/jotterlaw15.ScriptRefused", spec := "scriptRefused", inPlace := ["internal/bytealg.IndexByteString", "internal/bytealg.IndexString", "internal/bytealg.CountString", "internal/abi.NoEscape"], unfollowed := true, recurses := true, named := ["jotter/script.verbs", "internal/bytealg.MaxLen", "unicode/utf8.first", "unicode/utf8.acceptRanges", "jotter/script.least", "jotter/script.most", "internal/strconv.uint64pow10", "math/bits.deBruijn32tab", "math/bits.deBruijn64tab"], leaving := true, apart := false, laid := [("math/bits.deBruijn32tab", laid_math_bits_deBruijn32tab), ("math/bits.deBruijn64tab", laid_math_bits_deBruijn64tab), ("internal/strconv.uint64pow10", laid_internal_strconv_uint64pow10), ("unicode/utf8.acceptRanges", laid_unicode_utf8_acceptRanges), ("jotter/script.most", laid_jotter_script_most), ("jotter/script.least", laid_jotter_script_least), ("jotter/script.verbs", laid_jotter_script_verbs), ("unicode/utf8.first", laid_unicode_utf8_first)] }
def ScriptRefusedSaid : Prop := scriptRefusedRow.holds Tryd.pinned (OpenSpec.ofChange scriptRefusedSpec)

/-- ITS FALSE NEIGHBOUR: 'it returns false'. Refute it at one input. -/
def scriptRefusedWrong : ChangeSpec := { name := "scriptRefused", fn := fun _ => fun
  | [d] => { results := [.lit (.bool false)], args := [d] }
  | _ => none }
def ScriptRefusedWrongFalsely : Prop := scriptRefusedRow.holds Tryd.pinned (OpenSpec.ofChange scriptRefusedWrong)

/-- 'jotterlaw15.ScriptOne': WHATEVER THE INPUT: true; the input reads as it did. -/
def scriptOneSpec : ChangeSpec := { name := "scriptOne", fn := fun _ => fun
  | [d] => { results := [.lit (.bool true)], args := [d] }
  | _ => none }
def scriptOneRow : OpenClaim := { program := "ytbjkljmhhpoooaadoor", sum := "6e5fda33aacdf6b838f4497ab7e9e016528d3c6f84c185859a3cccac8ca43b5e", func := "jotter/jotterlaw15.ScriptOne", spec := "scriptOne", inPlace := ["internal/bytealg.IndexByteString", "internal/bytealg.IndexString", "internal/bytealg.CountString", "internal/abi.NoEscape", "internal/reflectlite.ValueOf", "(internal/reflectlite.Value).Type", "(internal/reflectlite.Value).IsNil", "internal/reflectlite.TypeOf", "(internal/reflectlite.Value).Elem", "(internal/reflectlite.Value).Set"], unfollowed := true, recurses := true, named := ["jotter/script.verbs", "internal/bytealg.MaxLen", "unicode/utf8.first", "unicode/utf8.acceptRanges", "jotter/script.least", "jotter/script.most", "internal/strconv.uint64pow10", "math/bits.deBruijn32tab", "math/bits.deBruijn64tab", "errors.errorType"], leaving := true, apart := false, laid := [("math/bits.deBruijn32tab", laid_math_bits_deBruijn32tab), ("math/bits.deBruijn64tab", laid_math_bits_deBruijn64tab), ("internal/strconv.uint64pow10", laid_internal_strconv_uint64pow10), ("unicode/utf8.acceptRanges", laid_unicode_utf8_acceptRanges), ("errors.errorType", laid_errors_errorType), ("jotter/script.most", laid_jotter_script_most), ("jotter/script.least", laid_jotter_script_least), ("jotter/script.verbs", laid_jotter_script_verbs), ("unicode/utf8.first", laid_unicode_utf8_first)] }
def ScriptOneSaid : Prop := scriptOneRow.holds Tryd.pinned (OpenSpec.ofChange scriptOneSpec)

/-- ITS FALSE NEIGHBOUR: 'it returns false'. Refute it at one input. -/
def scriptOneWrong : ChangeSpec := { name := "scriptOne", fn := fun _ => fun
  | [d] => { results := [.lit (.bool false)], args := [d] }
  | _ => none }
def ScriptOneWrongFalsely : Prop := scriptOneRow.holds Tryd.pinned (OpenSpec.ofChange scriptOneWrong)

/-- 'jotterlaw15.ScriptMany': WHATEVER THE INPUT: true; the input reads as it did. -/
def scriptManySpec : ChangeSpec := { name := "scriptMany", fn := fun _ => fun
  | [d1, d2] => { results := [.lit (.bool true)], args := [d1, d2] }
  | _ => none }
def scriptManyRow : OpenClaim := { program := "ytbjkljmhhpoooaadoor", sum := "6e5fda33aacdf6b838f4497ab7e9e016528d3c6f84c185859a3cccac8ca43b5e", func := "jotter/jotterlaw15.ScriptMany", spec := "scriptMany", inPlace := ["internal/bytealg.IndexByteString", "internal/bytealg.IndexString", "internal/bytealg.CountString", "internal/abi.NoEscape", "internal/reflectlite.ValueOf", "(internal/reflectlite.Value).Type", "(internal/reflectlite.Value).IsNil", "internal/reflectlite.TypeOf", "(internal/reflectlite.Value).Elem", "(internal/reflectlite.Value).Set"], unfollowed := true, recurses := true, named := ["jotter/script.verbs", "internal/bytealg.MaxLen", "unicode/utf8.first", "unicode/utf8.acceptRanges", "jotter/script.least", "jotter/script.most", "internal/strconv.uint64pow10", "math/bits.deBruijn32tab", "math/bits.deBruijn64tab", "errors.errorType"], leaving := true, apart := false, laid := [("math/bits.deBruijn32tab", laid_math_bits_deBruijn32tab), ("math/bits.deBruijn64tab", laid_math_bits_deBruijn64tab), ("internal/strconv.uint64pow10", laid_internal_strconv_uint64pow10), ("unicode/utf8.acceptRanges", laid_unicode_utf8_acceptRanges), ("errors.errorType", laid_errors_errorType), ("jotter/script.most", laid_jotter_script_most), ("jotter/script.least", laid_jotter_script_least), ("jotter/script.verbs", laid_jotter_script_verbs), ("unicode/utf8.first", laid_unicode_utf8_first)] }
def ScriptManySaid : Prop := scriptManyRow.holds Tryd.pinned (OpenSpec.ofChange scriptManySpec)

/-- ITS FALSE NEIGHBOUR: 'it returns false'. Refute it at one input. -/
def scriptManyWrong : ChangeSpec := { name := "scriptMany", fn := fun _ => fun
  | [d1, d2] => { results := [.lit (.bool false)], args := [d1, d2] }
  | _ => none }
def ScriptManyWrongFalsely : Prop := scriptManyRow.holds Tryd.pinned (OpenSpec.ofChange scriptManyWrong)

/- THE SECOND FORM. 'bulk': how many values and letters a reading holds, each counted each time it is reached (what is shared counts as often as it is met; a slice's spare places count too). A statement '..UptoSaid' is the law's where the arguments, and the package variables that the reading takes, are together of bulk at most 1048576: NARROWER than '..Said'. Prove '..Said' where nothing that the law and all that it calls make is longer than what came in: it says more and counts as full. Else prove '..UptoSaid'. A law counts once. -/
mutual
def uptoBulk {H : Type} : DataW H → Nat
  | .lit (.string bytes) => bytes.length + 1
  | .lit _ => 1
  | .nil => 1
  | .ptr d => uptoBulk d + 1
  | .slice elems spare => uptoBulkAll elems + uptoBulkAll spare + 1
  | .agg parts => uptoBulkAll parts + 1
  | .iface _ d => uptoBulk d + 1
  | .map entries => uptoBulkEntries entries + 1
  | .held _ => 1
def uptoBulkAll {H : Type} : List (DataW H) → Nat
  | [] => 0
  | d :: r => uptoBulk d + uptoBulkAll r
def uptoBulkEntries {H : Type} : List (Lit × DataW H) → Nat
  | [] => 0
  | x :: r => uptoBulkEntry x + uptoBulkEntries r
def uptoBulkEntry {H : Type} : Lit × DataW H → Nat
  | (.string bytes, d) => bytes.length + uptoBulk d + 1
  | (_, d) => uptoBulk d + 1
 end
def uptoSmall : (H : Type) → List (DataW H) → Bool := fun _ ds => decide (uptoBulkAll ds ≤ 1048576)
def OpenSpec.upto (s : _root_.Go.ChangeSpec) : _root_.Go.OpenSpec := { _root_.Go.OpenSpec.ofChange s with cond := some uptoSmall }

/-- 'jotterlaw15.ScriptLines', WHERE WHAT IT READS IS OF BULK AT MOST 1048576: true; the input reads as it did. -/
def scriptLinesUptoRow : OpenClaim := { program := "ytbjkljmhhpoooaadoor", sum := "6e5fda33aacdf6b838f4497ab7e9e016528d3c6f84c185859a3cccac8ca43b5e", func := "jotter/jotterlaw15.ScriptLines", spec := "scriptLines", inPlace := ["internal/bytealg.IndexByteString", "internal/bytealg.IndexString", "internal/bytealg.CountString"], unfollowed := true, recurses := true, named := ["jotter/script.verbs", "internal/bytealg.MaxLen", "unicode/utf8.first", "unicode/utf8.acceptRanges", "jotter/script.least", "jotter/script.most"], leaving := true, apart := false, laid := [("unicode/utf8.acceptRanges", laid_unicode_utf8_acceptRanges), ("jotter/script.most", laid_jotter_script_most), ("jotter/script.least", laid_jotter_script_least), ("jotter/script.verbs", laid_jotter_script_verbs), ("unicode/utf8.first", laid_unicode_utf8_first)], narrowed := true }
def ScriptLinesUptoSaid : Prop := scriptLinesUptoRow.holds Tryd.pinned (OpenSpec.upto scriptLinesSpec)

/-- 'jotterlaw15.ScriptRound', WHERE WHAT IT READS IS OF BULK AT MOST 1048576: true; the input reads as it did. -/
def scriptRoundUptoRow : OpenClaim := { program := "ytbjkljmhhpoooaadoor", sum := "6e5fda33aacdf6b838f4497ab7e9e016528d3c6f84c185859a3cccac8ca43b5e", func := "jotter/jotterlaw15.ScriptRound", spec := "scriptRound", inPlace := ["internal/abi.NoEscape", "internal/bytealg.IndexByteString", "internal/bytealg.IndexString", "internal/bytealg.CountString"], unfollowed := true, recurses := true, named := ["internal/strconv.uint64pow10", "math/bits.deBruijn32tab", "math/bits.deBruijn64tab", "jotter/script.verbs", "internal/bytealg.MaxLen", "unicode/utf8.first", "unicode/utf8.acceptRanges", "jotter/script.least", "jotter/script.most"], leaving := true, apart := false, laid := [("math/bits.deBruijn32tab", laid_math_bits_deBruijn32tab), ("math/bits.deBruijn64tab", laid_math_bits_deBruijn64tab), ("internal/strconv.uint64pow10", laid_internal_strconv_uint64pow10), ("unicode/utf8.acceptRanges", laid_unicode_utf8_acceptRanges), ("jotter/script.most", laid_jotter_script_most), ("jotter/script.least", laid_jotter_script_least), ("jotter/script.verbs", laid_jotter_script_verbs), ("unicode/utf8.first", laid_unicode_utf8_first)], narrowed := true }
def ScriptRoundUptoSaid : Prop := scriptRoundUptoRow.holds Tryd.pinned (OpenSpec.upto scriptRoundSpec)

/-- 'jotterlaw15.ScriptApart', WHERE WHAT IT READS IS OF BULK AT MOST 1048576: true; the input reads as it did. -/
def scriptApartUptoRow : OpenClaim := { program := "ytbjkljmhhpoooaadoor", sum := "6e5fda33aacdf6b838f4497ab7e9e016528d3c6f84c185859a3cccac8ca43b5e", func := "jotter/jotterlaw15.ScriptApart", spec := "scriptApart", inPlace := ["internal/bytealg.IndexByteString", "internal/bytealg.IndexString", "internal/bytealg.CountString", "internal/abi.NoEscape"], unfollowed := true, recurses := true, named := ["jotter/script.verbs", "internal/bytealg.MaxLen", "unicode/utf8.first", "unicode/utf8.acceptRanges", "jotter/script.least", "jotter/script.most", "internal/strconv.uint64pow10", "math/bits.deBruijn32tab", "math/bits.deBruijn64tab"], leaving := true, apart := false, laid := [("math/bits.deBruijn32tab", laid_math_bits_deBruijn32tab), ("math/bits.deBruijn64tab", laid_math_bits_deBruijn64tab), ("internal/strconv.uint64pow10", laid_internal_strconv_uint64pow10), ("unicode/utf8.acceptRanges", laid_unicode_utf8_acceptRanges), ("jotter/script.most", laid_jotter_script_most), ("jotter/script.least", laid_jotter_script_least), ("jotter/script.verbs", laid_jotter_script_verbs), ("unicode/utf8.first", laid_unicode_utf8_first)], narrowed := true }
def ScriptApartUptoSaid : Prop := scriptApartUptoRow.holds Tryd.pinned (OpenSpec.upto scriptApartSpec)

/-- 'jotterlaw15.ScriptRefused', WHERE WHAT IT READS IS OF BULK AT MOST 1048576: true; the input reads as it did. -/
def scriptRefusedUptoRow : OpenClaim := { program := "ytbjkljmhhpoooaadoor", sum := "6e5fda33aacdf6b838f4497ab7e9e016528d3c6f84c185859a3cccac8ca43b5e", func := "jotter/jotterlaw15.ScriptRefused", spec := "scriptRefused", inPlace := ["internal/bytealg.IndexByteString", "internal/bytealg.IndexString", "internal/bytealg.CountString", "internal/abi.NoEscape"], unfollowed := true, recurses := true, named := ["jotter/script.verbs", "internal/bytealg.MaxLen", "unicode/utf8.first", "unicode/utf8.acceptRanges", "jotter/script.least", "jotter/script.most", "internal/strconv.uint64pow10", "math/bits.deBruijn32tab", "math/bits.deBruijn64tab"], leaving := true, apart := false, laid := [("math/bits.deBruijn32tab", laid_math_bits_deBruijn32tab), ("math/bits.deBruijn64tab", laid_math_bits_deBruijn64tab), ("internal/strconv.uint64pow10", laid_internal_strconv_uint64pow10), ("unicode/utf8.acceptRanges", laid_unicode_utf8_acceptRanges), ("jotter/script.most", laid_jotter_script_most), ("jotter/script.least", laid_jotter_script_least), ("jotter/script.verbs", laid_jotter_script_verbs), ("unicode/utf8.first", laid_unicode_utf8_first)], narrowed := true }
def ScriptRefusedUptoSaid : Prop := scriptRefusedUptoRow.holds Tryd.pinned (OpenSpec.upto scriptRefusedSpec)

/-- 'jotterlaw15.ScriptOne', WHERE WHAT IT READS IS OF BULK AT MOST 1048576: true; the input reads as it did. -/
def scriptOneUptoRow : OpenClaim := { program := "ytbjkljmhhpoooaadoor", sum := "6e5fda33aacdf6b838f4497ab7e9e016528d3c6f84c185859a3cccac8ca43b5e", func := "jotter/jotterlaw15.ScriptOne", spec := "scriptOne", inPlace := ["internal/bytealg.IndexByteString", "internal/bytealg.IndexString", "internal/bytealg.CountString", "internal/abi.NoEscape", "internal/reflectlite.ValueOf", "(internal/reflectlite.Value).Type", "(internal/reflectlite.Value).IsNil", "internal/reflectlite.TypeOf", "(internal/reflectlite.Value).Elem", "(internal/reflectlite.Value).Set"], unfollowed := true, recurses := true, named := ["jotter/script.verbs", "internal/bytealg.MaxLen", "unicode/utf8.first", "unicode/utf8.acceptRanges", "jotter/script.least", "jotter/script.most", "internal/strconv.uint64pow10", "math/bits.deBruijn32tab", "math/bits.deBruijn64tab", "errors.errorType"], leaving := true, apart := false, laid := [("math/bits.deBruijn32tab", laid_math_bits_deBruijn32tab), ("math/bits.deBruijn64tab", laid_math_bits_deBruijn64tab), ("internal/strconv.uint64pow10", laid_internal_strconv_uint64pow10), ("unicode/utf8.acceptRanges", laid_unicode_utf8_acceptRanges), ("errors.errorType", laid_errors_errorType), ("jotter/script.most", laid_jotter_script_most), ("jotter/script.least", laid_jotter_script_least), ("jotter/script.verbs", laid_jotter_script_verbs), ("unicode/utf8.first", laid_unicode_utf8_first)], narrowed := true }
def ScriptOneUptoSaid : Prop := scriptOneUptoRow.holds Tryd.pinned (OpenSpec.upto scriptOneSpec)

/-- 'jotterlaw15.ScriptMany', WHERE WHAT IT READS IS OF BULK AT MOST 1048576: true; the input reads as it did. -/
def scriptManyUptoRow : OpenClaim := { program := "ytbjkljmhhpoooaadoor", sum := "6e5fda33aacdf6b838f4497ab7e9e016528d3c6f84c185859a3cccac8ca43b5e", func := "jotter/jotterlaw15.ScriptMany", spec := "scriptMany", inPlace := ["internal/bytealg.IndexByteString", "internal/bytealg.IndexString", "internal/bytealg.CountString", "internal/abi.NoEscape", "internal/reflectlite.ValueOf", "(internal/reflectlite.Value).Type", "(internal/reflectlite.Value).IsNil", "internal/reflectlite.TypeOf", "(internal/reflectlite.Value).Elem", "(internal/reflectlite.Value).Set"], unfollowed := true, recurses := true, named := ["jotter/script.verbs", "internal/bytealg.MaxLen", "unicode/utf8.first", "unicode/utf8.acceptRanges", "jotter/script.least", "jotter/script.most", "internal/strconv.uint64pow10", "math/bits.deBruijn32tab", "math/bits.deBruijn64tab", "errors.errorType"], leaving := true, apart := false, laid := [("math/bits.deBruijn32tab", laid_math_bits_deBruijn32tab), ("math/bits.deBruijn64tab", laid_math_bits_deBruijn64tab), ("internal/strconv.uint64pow10", laid_internal_strconv_uint64pow10), ("unicode/utf8.acceptRanges", laid_unicode_utf8_acceptRanges), ("errors.errorType", laid_errors_errorType), ("jotter/script.most", laid_jotter_script_most), ("jotter/script.least", laid_jotter_script_least), ("jotter/script.verbs", laid_jotter_script_verbs), ("unicode/utf8.first", laid_unicode_utf8_first)], narrowed := true }
def ScriptManyUptoSaid : Prop := scriptManyUptoRow.holds Tryd.pinned (OpenSpec.upto scriptManySpec)

end Rows
end Go.Proofs.YtbjkljmhhpoooaaDoor
