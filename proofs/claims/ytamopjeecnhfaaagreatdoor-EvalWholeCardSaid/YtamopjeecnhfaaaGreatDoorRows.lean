/-
  NARROWER THAN 'FOR EVERY INPUT', by the rows' own cells (each row's printed sentence says how): EvalTells: laid · EvalSymbols: laid · EvalWhole: laid · EvalSpecial: laid · EvalPrefixes: laid · EvalBases: laid · EvalNotes: laid · EvalTurned: laid · EvalPowers: laid.
  DERIVED. THE GIVEN ROWS OF THIS SEAT. 9 by the template 'for every input the law returns true; each argument reads behind the call as it read before'; 0 by the template 'total and deterministic' (their statements: YtamopjeecnhfaaaGreatDoorTotals.lean).
  GIVEN WITH THE SEED: the statements are not yours to turn. If you find one false, say at which input.
  Laid BY PROGRAM, IN A SANDBOX (cutbox-rows.mjs): the forced cells as the released guide's own fill.sh prints them over the translation 5fe8404d716e67fe… (all of the seat's roots in one cut). By AI agents, Wed Nov 11 2026. No macro, syntax, notation, axiom, sorry.
-/
import Derived.Test.YtamopjeecnhfaaaGreatDoorChecked
import GoSem.Claim
import GoSem.ClaimJoined
import GoSem.ClaimMapViews
import Derived.JoinedTies
import Derived.KernelRfl
namespace Go.Proofs.YtamopjeecnhfaaaGreatDoor
/- THE CELL 'sum', in the pinned program and in every row, IS THE sha256 OF THE DUMP (.gsa) THAT YtamopjeecnhfaaaGreatDoorProg.lean LOADS. Nothing in Lean hashes anything: it is a label: what it is worth is what the hold of that sum in a sandbox is worth. -/
noncomputable def Tryz.pinned : Pinned := { name := "ytamopjeecnhfaaagreatdoor", sum := "5fe8404d716e67fef98a03d505fb1e4397906394eadb541078a9e024a71a0827", checked := Tryz.checked }
namespace Rows
def none {H : Type} : Left H := { results := [], args := [] }

/- WHAT THE LISTED PACKAGE-LEVEL VARIABLES READ AS WHEN THE CALL BEGINS. Each datum BY PROGRAM (the guide's laid-datum.mjs) off the statement by which the dump's own 'gosem.cut.vars' lays the variable. In a bare row this is a premise. The card (YtamopjeecnhfaaaGreatDoorCards.lean) ties it to the program's text. -/
def laid_math_bits_deBruijn32tab {H : Type} : DataW H := .agg [.lit (.int .u8 0), .lit (.int .u8 1), .lit (.int .u8 28), .lit (.int .u8 2), .lit (.int .u8 29), .lit (.int .u8 14), .lit (.int .u8 24), .lit (.int .u8 3), .lit (.int .u8 30), .lit (.int .u8 22), .lit (.int .u8 20), .lit (.int .u8 15), .lit (.int .u8 25), .lit (.int .u8 17), .lit (.int .u8 4), .lit (.int .u8 8), .lit (.int .u8 31), .lit (.int .u8 27), .lit (.int .u8 13), .lit (.int .u8 23), .lit (.int .u8 21), .lit (.int .u8 19), .lit (.int .u8 16), .lit (.int .u8 7), .lit (.int .u8 26), .lit (.int .u8 12), .lit (.int .u8 18), .lit (.int .u8 6), .lit (.int .u8 11), .lit (.int .u8 5), .lit (.int .u8 10), .lit (.int .u8 9)]
def laid_math_bits_deBruijn64tab {H : Type} : DataW H := .agg [.lit (.int .u8 0), .lit (.int .u8 1), .lit (.int .u8 56), .lit (.int .u8 2), .lit (.int .u8 57), .lit (.int .u8 49), .lit (.int .u8 28), .lit (.int .u8 3), .lit (.int .u8 61), .lit (.int .u8 58), .lit (.int .u8 42), .lit (.int .u8 50), .lit (.int .u8 38), .lit (.int .u8 29), .lit (.int .u8 17), .lit (.int .u8 4), .lit (.int .u8 62), .lit (.int .u8 47), .lit (.int .u8 59), .lit (.int .u8 36), .lit (.int .u8 45), .lit (.int .u8 43), .lit (.int .u8 51), .lit (.int .u8 22), .lit (.int .u8 53), .lit (.int .u8 39), .lit (.int .u8 33), .lit (.int .u8 30), .lit (.int .u8 24), .lit (.int .u8 18), .lit (.int .u8 12), .lit (.int .u8 5), .lit (.int .u8 63), .lit (.int .u8 55), .lit (.int .u8 48), .lit (.int .u8 27), .lit (.int .u8 60), .lit (.int .u8 41), .lit (.int .u8 37), .lit (.int .u8 16), .lit (.int .u8 46), .lit (.int .u8 35), .lit (.int .u8 44), .lit (.int .u8 21), .lit (.int .u8 52), .lit (.int .u8 32), .lit (.int .u8 23), .lit (.int .u8 11), .lit (.int .u8 54), .lit (.int .u8 26), .lit (.int .u8 40), .lit (.int .u8 15), .lit (.int .u8 34), .lit (.int .u8 20), .lit (.int .u8 31), .lit (.int .u8 10), .lit (.int .u8 25), .lit (.int .u8 14), .lit (.int .u8 19), .lit (.int .u8 9), .lit (.int .u8 13), .lit (.int .u8 8), .lit (.int .u8 7), .lit (.int .u8 6)]
def laid_internal_strconv_uint64pow10 {H : Type} : DataW H := .agg [.lit (.int .u64 1), .lit (.int .u64 10), .lit (.int .u64 100), .lit (.int .u64 1000), .lit (.int .u64 10000), .lit (.int .u64 100000), .lit (.int .u64 1000000), .lit (.int .u64 10000000), .lit (.int .u64 100000000), .lit (.int .u64 1000000000), .lit (.int .u64 10000000000), .lit (.int .u64 100000000000), .lit (.int .u64 1000000000000), .lit (.int .u64 10000000000000), .lit (.int .u64 100000000000000), .lit (.int .u64 1000000000000000), .lit (.int .u64 10000000000000000), .lit (.int .u64 100000000000000000), .lit (.int .u64 1000000000000000000), .lit (.int .u64 10000000000000000000)]
def laid_strconv_ErrRange {H : Type} : DataW H := .iface "*errors.errorString" (.ptr (.agg [.lit (.string [118, 97, 108, 117, 101, 32, 111, 117, 116, 32, 111, 102, 32, 114, 97, 110, 103, 101])]))
def laid_strconv_ErrSyntax {H : Type} : DataW H := .iface "*errors.errorString" (.ptr (.agg [.lit (.string [105, 110, 118, 97, 108, 105, 100, 32, 115, 121, 110, 116, 97, 120])]))
def laid_drachm_frac_one {H : Type} : DataW H := .agg [.lit (.int .i64 1), .lit (.int .i64 1), .lit (.int .i64 0)]
def laid_drachm_frac_tens {H : Type} : DataW H := .agg [.lit (.int .i64 2), .lit (.int .i64 5)]
def laid_drachm_atoms_prefixes {H : Type} : DataW H := .agg [.agg [.agg [.lit (.string [89]), .lit (.string [89, 65]), .lit (.string [89]), .lit (.string []), .lit (.string [89])], .lit (.int .i64 24)], .agg [.agg [.lit (.string [90]), .lit (.string [90, 65]), .lit (.string [90]), .lit (.string []), .lit (.string [90])], .lit (.int .i64 21)], .agg [.agg [.lit (.string [69]), .lit (.string [69, 88]), .lit (.string [69]), .lit (.string [69]), .lit (.string [69])], .lit (.int .i64 18)], .agg [.agg [.lit (.string [80]), .lit (.string [80, 84]), .lit (.string [80]), .lit (.string [80, 69]), .lit (.string [80])], .lit (.int .i64 15)], .agg [.agg [.lit (.string [84]), .lit (.string [84, 82]), .lit (.string [84]), .lit (.string [84]), .lit (.string [84])], .lit (.int .i64 12)], .agg [.agg [.lit (.string [71]), .lit (.string [71, 65]), .lit (.string [71]), .lit (.string [71]), .lit (.string [71])], .lit (.int .i64 9)], .agg [.agg [.lit (.string [77]), .lit (.string [77, 65]), .lit (.string [77]), .lit (.string [77, 65]), .lit (.string [77])], .lit (.int .i64 6)], .agg [.agg [.lit (.string [107]), .lit (.string [75]), .lit (.string [107]), .lit (.string [75]), .lit (.string [107])], .lit (.int .i64 3)], .agg [.agg [.lit (.string [104]), .lit (.string [72]), .lit (.string [104]), .lit (.string [72]), .lit (.string [104])], .lit (.int .i64 2)], .agg [.agg [.lit (.string [100, 97]), .lit (.string [68, 65]), .lit (.string [100, 97]), .lit (.string [68, 65]), .lit (.string [100, 97])], .lit (.int .i64 1)], .agg [.agg [.lit (.string [100]), .lit (.string [68]), .lit (.string [100]), .lit (.string [68]), .lit (.string [100])], .lit (.int .i64 (-1))], .agg [.agg [.lit (.string [99]), .lit (.string [67]), .lit (.string [99]), .lit (.string [67]), .lit (.string [99])], .lit (.int .i64 (-2))], .agg [.agg [.lit (.string [109]), .lit (.string [77]), .lit (.string [109]), .lit (.string [77]), .lit (.string [109])], .lit (.int .i64 (-3))], .agg [.agg [.lit (.string [117]), .lit (.string [85]), .lit (.string [117]), .lit (.string [85]), .lit (.string [117])], .lit (.int .i64 (-6))], .agg [.agg [.lit (.string [110]), .lit (.string [78]), .lit (.string [110]), .lit (.string [78]), .lit (.string [110])], .lit (.int .i64 (-9))], .agg [.agg [.lit (.string [112]), .lit (.string [80]), .lit (.string [112]), .lit (.string [80]), .lit (.string [112])], .lit (.int .i64 (-12))], .agg [.agg [.lit (.string [102]), .lit (.string [70]), .lit (.string [102]), .lit (.string [70]), .lit (.string [102])], .lit (.int .i64 (-15))], .agg [.agg [.lit (.string [97]), .lit (.string [65]), .lit (.string [97]), .lit (.string [65]), .lit (.string [97])], .lit (.int .i64 (-18))], .agg [.agg [.lit (.string [122]), .lit (.string [90, 79]), .lit (.string [122]), .lit (.string []), .lit (.string [122])], .lit (.int .i64 (-21))], .agg [.agg [.lit (.string [121]), .lit (.string [89, 79]), .lit (.string [121]), .lit (.string []), .lit (.string [121])], .lit (.int .i64 (-24))]]
def laid_drachm_style_styles {H : Type} : DataW H := .agg [.agg [.lit (.bool false), .lit (.int .u8 46), .lit (.int .u8 47), .lit (.int .u8 0), .lit (.int .u8 123), .lit (.int .u8 125)], .agg [.lit (.bool true), .lit (.int .u8 46), .lit (.int .u8 47), .lit (.int .u8 0), .lit (.int .u8 123), .lit (.int .u8 125)], .agg [.lit (.bool false), .lit (.int .u8 42), .lit (.int .u8 47), .lit (.int .u8 94), .lit (.int .u8 60), .lit (.int .u8 62)], .agg [.lit (.bool true), .lit (.int .u8 46), .lit (.int .u8 47), .lit (.int .u8 0), .lit (.int .u8 0), .lit (.int .u8 0)], .agg [.lit (.bool false), .lit (.int .u8 46), .lit (.int .u8 47), .lit (.int .u8 94), .lit (.int .u8 0), .lit (.int .u8 0)]]
def laid_drachm_eval_one {H : Type} : DataW H := .agg [.agg [.lit (.int .i64 1), .lit (.int .i64 1), .lit (.int .i64 0)], .agg [.lit (.int .i64 0), .lit (.int .i64 0), .lit (.int .i64 0), .lit (.int .i64 0), .lit (.int .i64 0), .lit (.int .i64 0), .lit (.int .i64 0)], .lit (.int .i64 0)]

/-- 'drachmlaw14.EvalTells': WHATEVER THE INPUT: true; the input reads as it did. -/
def evalTellsSpec : ChangeSpec := { name := "evalTells", fn := fun _ => fun
  | [d1, d2, d3] => { results := [.lit (.bool true)], args := [d1, d2, d3] }
  | _ => none }
def evalTellsRow : OpenClaim := { program := "ytamopjeecnhfaaagreatdoor", sum := "5fe8404d716e67fef98a03d505fb1e4397906394eadb541078a9e024a71a0827", func := "drachm/drachmlaw14.EvalTells", spec := "evalTells", inPlace := ["internal/bytealg.IndexByteString"], unfollowed := true, recurses := true, named := ["drachm/style.styles", "strconv.ErrSyntax", "strconv.ErrRange", "internal/strconv.uint64pow10", "math/bits.deBruijn32tab", "math/bits.deBruijn64tab", "drachm/atoms.prefixes", "drachm/eval.one", "drachm/frac.tens", "drachm/frac.one"], apart := false, laid := [("math/bits.deBruijn32tab", laid_math_bits_deBruijn32tab), ("math/bits.deBruijn64tab", laid_math_bits_deBruijn64tab), ("internal/strconv.uint64pow10", laid_internal_strconv_uint64pow10), ("strconv.ErrRange", laid_strconv_ErrRange), ("strconv.ErrSyntax", laid_strconv_ErrSyntax), ("drachm/frac.one", laid_drachm_frac_one), ("drachm/frac.tens", laid_drachm_frac_tens), ("drachm/atoms.prefixes", laid_drachm_atoms_prefixes), ("drachm/style.styles", laid_drachm_style_styles), ("drachm/eval.one", laid_drachm_eval_one)] }
def EvalTellsSaid : Prop := evalTellsRow.holds Tryz.pinned (OpenSpec.ofChange evalTellsSpec)

/-- ITS FALSE NEIGHBOUR: 'it returns false'. Refute it at one input. -/
def evalTellsWrong : ChangeSpec := { name := "evalTells", fn := fun _ => fun
  | [d1, d2, d3] => { results := [.lit (.bool false)], args := [d1, d2, d3] }
  | _ => none }
def EvalTellsWrongFalsely : Prop := evalTellsRow.holds Tryz.pinned (OpenSpec.ofChange evalTellsWrong)

/-- 'drachmlaw14.EvalSymbols': WHATEVER THE INPUT: true; the input reads as it did. -/
def evalSymbolsSpec : ChangeSpec := { name := "evalSymbols", fn := fun _ => fun
  | [d1, d2, d3] => { results := [.lit (.bool true)], args := [d1, d2, d3] }
  | _ => none }
def evalSymbolsRow : OpenClaim := { program := "ytamopjeecnhfaaagreatdoor", sum := "5fe8404d716e67fef98a03d505fb1e4397906394eadb541078a9e024a71a0827", func := "drachm/drachmlaw14.EvalSymbols", spec := "evalSymbols", inPlace := ["internal/bytealg.IndexByteString"], unfollowed := true, recurses := true, named := ["drachm/style.styles", "strconv.ErrSyntax", "strconv.ErrRange", "internal/strconv.uint64pow10", "math/bits.deBruijn32tab", "math/bits.deBruijn64tab", "drachm/atoms.prefixes", "drachm/eval.one", "drachm/frac.tens", "drachm/frac.one"], apart := false, laid := [("math/bits.deBruijn32tab", laid_math_bits_deBruijn32tab), ("math/bits.deBruijn64tab", laid_math_bits_deBruijn64tab), ("internal/strconv.uint64pow10", laid_internal_strconv_uint64pow10), ("strconv.ErrRange", laid_strconv_ErrRange), ("strconv.ErrSyntax", laid_strconv_ErrSyntax), ("drachm/frac.one", laid_drachm_frac_one), ("drachm/frac.tens", laid_drachm_frac_tens), ("drachm/atoms.prefixes", laid_drachm_atoms_prefixes), ("drachm/style.styles", laid_drachm_style_styles), ("drachm/eval.one", laid_drachm_eval_one)] }
def EvalSymbolsSaid : Prop := evalSymbolsRow.holds Tryz.pinned (OpenSpec.ofChange evalSymbolsSpec)

/-- ITS FALSE NEIGHBOUR: 'it returns false'. Refute it at one input. -/
def evalSymbolsWrong : ChangeSpec := { name := "evalSymbols", fn := fun _ => fun
  | [d1, d2, d3] => { results := [.lit (.bool false)], args := [d1, d2, d3] }
  | _ => none }
def EvalSymbolsWrongFalsely : Prop := evalSymbolsRow.holds Tryz.pinned (OpenSpec.ofChange evalSymbolsWrong)

/-- 'drachmlaw14.EvalWhole': WHATEVER THE INPUT: true; the input reads as it did. -/
def evalWholeSpec : ChangeSpec := { name := "evalWhole", fn := fun _ => fun
  | [d1, d2] => { results := [.lit (.bool true)], args := [d1, d2] }
  | _ => none }
def evalWholeRow : OpenClaim := { program := "ytamopjeecnhfaaagreatdoor", sum := "5fe8404d716e67fef98a03d505fb1e4397906394eadb541078a9e024a71a0827", func := "drachm/drachmlaw14.EvalWhole", spec := "evalWhole", inPlace := ["internal/bytealg.IndexByteString"], unfollowed := true, recurses := true, named := ["drachm/style.styles", "strconv.ErrSyntax", "strconv.ErrRange", "internal/strconv.uint64pow10", "math/bits.deBruijn32tab", "math/bits.deBruijn64tab", "drachm/atoms.prefixes", "drachm/eval.one", "drachm/frac.tens", "drachm/frac.one"], apart := false, laid := [("math/bits.deBruijn32tab", laid_math_bits_deBruijn32tab), ("math/bits.deBruijn64tab", laid_math_bits_deBruijn64tab), ("internal/strconv.uint64pow10", laid_internal_strconv_uint64pow10), ("strconv.ErrRange", laid_strconv_ErrRange), ("strconv.ErrSyntax", laid_strconv_ErrSyntax), ("drachm/frac.one", laid_drachm_frac_one), ("drachm/frac.tens", laid_drachm_frac_tens), ("drachm/atoms.prefixes", laid_drachm_atoms_prefixes), ("drachm/style.styles", laid_drachm_style_styles), ("drachm/eval.one", laid_drachm_eval_one)] }
def EvalWholeSaid : Prop := evalWholeRow.holds Tryz.pinned (OpenSpec.ofChange evalWholeSpec)

/-- ITS FALSE NEIGHBOUR: 'it returns false'. Refute it at one input. -/
def evalWholeWrong : ChangeSpec := { name := "evalWhole", fn := fun _ => fun
  | [d1, d2] => { results := [.lit (.bool false)], args := [d1, d2] }
  | _ => none }
def EvalWholeWrongFalsely : Prop := evalWholeRow.holds Tryz.pinned (OpenSpec.ofChange evalWholeWrong)

/-- 'drachmlaw14.EvalSpecial': WHATEVER THE INPUT: true; the input reads as it did. -/
def evalSpecialSpec : ChangeSpec := { name := "evalSpecial", fn := fun _ => fun
  | [d1, d2] => { results := [.lit (.bool true)], args := [d1, d2] }
  | _ => none }
def evalSpecialRow : OpenClaim := { program := "ytamopjeecnhfaaagreatdoor", sum := "5fe8404d716e67fef98a03d505fb1e4397906394eadb541078a9e024a71a0827", func := "drachm/drachmlaw14.EvalSpecial", spec := "evalSpecial", inPlace := ["internal/bytealg.IndexByteString"], unfollowed := true, recurses := true, named := ["drachm/style.styles", "strconv.ErrSyntax", "strconv.ErrRange", "internal/strconv.uint64pow10", "math/bits.deBruijn32tab", "math/bits.deBruijn64tab", "drachm/atoms.prefixes", "drachm/eval.one", "drachm/frac.tens", "drachm/frac.one"], apart := false, laid := [("math/bits.deBruijn32tab", laid_math_bits_deBruijn32tab), ("math/bits.deBruijn64tab", laid_math_bits_deBruijn64tab), ("internal/strconv.uint64pow10", laid_internal_strconv_uint64pow10), ("strconv.ErrRange", laid_strconv_ErrRange), ("strconv.ErrSyntax", laid_strconv_ErrSyntax), ("drachm/frac.one", laid_drachm_frac_one), ("drachm/frac.tens", laid_drachm_frac_tens), ("drachm/atoms.prefixes", laid_drachm_atoms_prefixes), ("drachm/style.styles", laid_drachm_style_styles), ("drachm/eval.one", laid_drachm_eval_one)] }
def EvalSpecialSaid : Prop := evalSpecialRow.holds Tryz.pinned (OpenSpec.ofChange evalSpecialSpec)

/-- ITS FALSE NEIGHBOUR: 'it returns false'. Refute it at one input. -/
def evalSpecialWrong : ChangeSpec := { name := "evalSpecial", fn := fun _ => fun
  | [d1, d2] => { results := [.lit (.bool false)], args := [d1, d2] }
  | _ => none }
def EvalSpecialWrongFalsely : Prop := evalSpecialRow.holds Tryz.pinned (OpenSpec.ofChange evalSpecialWrong)

/-- 'drachmlaw14.EvalPrefixes': WHATEVER THE INPUT: true; the input reads as it did. -/
def evalPrefixesSpec : ChangeSpec := { name := "evalPrefixes", fn := fun _ => fun
  | [d1, d2] => { results := [.lit (.bool true)], args := [d1, d2] }
  | _ => none }
def evalPrefixesRow : OpenClaim := { program := "ytamopjeecnhfaaagreatdoor", sum := "5fe8404d716e67fef98a03d505fb1e4397906394eadb541078a9e024a71a0827", func := "drachm/drachmlaw14.EvalPrefixes", spec := "evalPrefixes", inPlace := ["internal/bytealg.IndexByteString"], unfollowed := true, recurses := true, named := ["drachm/style.styles", "strconv.ErrSyntax", "strconv.ErrRange", "internal/strconv.uint64pow10", "math/bits.deBruijn32tab", "math/bits.deBruijn64tab", "drachm/atoms.prefixes", "drachm/eval.one", "drachm/frac.tens", "drachm/frac.one"], apart := false, laid := [("math/bits.deBruijn32tab", laid_math_bits_deBruijn32tab), ("math/bits.deBruijn64tab", laid_math_bits_deBruijn64tab), ("internal/strconv.uint64pow10", laid_internal_strconv_uint64pow10), ("strconv.ErrRange", laid_strconv_ErrRange), ("strconv.ErrSyntax", laid_strconv_ErrSyntax), ("drachm/frac.one", laid_drachm_frac_one), ("drachm/frac.tens", laid_drachm_frac_tens), ("drachm/atoms.prefixes", laid_drachm_atoms_prefixes), ("drachm/style.styles", laid_drachm_style_styles), ("drachm/eval.one", laid_drachm_eval_one)] }
def EvalPrefixesSaid : Prop := evalPrefixesRow.holds Tryz.pinned (OpenSpec.ofChange evalPrefixesSpec)

/-- ITS FALSE NEIGHBOUR: 'it returns false'. Refute it at one input. -/
def evalPrefixesWrong : ChangeSpec := { name := "evalPrefixes", fn := fun _ => fun
  | [d1, d2] => { results := [.lit (.bool false)], args := [d1, d2] }
  | _ => none }
def EvalPrefixesWrongFalsely : Prop := evalPrefixesRow.holds Tryz.pinned (OpenSpec.ofChange evalPrefixesWrong)

/-- 'drachmlaw14.EvalBases': WHATEVER THE INPUT: true; the input reads as it did. -/
def evalBasesSpec : ChangeSpec := { name := "evalBases", fn := fun _ => fun
  | [d1, d2, d3] => { results := [.lit (.bool true)], args := [d1, d2, d3] }
  | _ => none }
def evalBasesRow : OpenClaim := { program := "ytamopjeecnhfaaagreatdoor", sum := "5fe8404d716e67fef98a03d505fb1e4397906394eadb541078a9e024a71a0827", func := "drachm/drachmlaw14.EvalBases", spec := "evalBases", inPlace := ["internal/bytealg.IndexByteString"], unfollowed := true, recurses := true, named := ["drachm/style.styles", "strconv.ErrSyntax", "strconv.ErrRange", "internal/strconv.uint64pow10", "math/bits.deBruijn32tab", "math/bits.deBruijn64tab", "drachm/atoms.prefixes", "drachm/eval.one", "drachm/frac.tens", "drachm/frac.one"], apart := false, laid := [("math/bits.deBruijn32tab", laid_math_bits_deBruijn32tab), ("math/bits.deBruijn64tab", laid_math_bits_deBruijn64tab), ("internal/strconv.uint64pow10", laid_internal_strconv_uint64pow10), ("strconv.ErrRange", laid_strconv_ErrRange), ("strconv.ErrSyntax", laid_strconv_ErrSyntax), ("drachm/frac.one", laid_drachm_frac_one), ("drachm/frac.tens", laid_drachm_frac_tens), ("drachm/atoms.prefixes", laid_drachm_atoms_prefixes), ("drachm/style.styles", laid_drachm_style_styles), ("drachm/eval.one", laid_drachm_eval_one)] }
def EvalBasesSaid : Prop := evalBasesRow.holds Tryz.pinned (OpenSpec.ofChange evalBasesSpec)

/-- ITS FALSE NEIGHBOUR: 'it returns false'. Refute it at one input. -/
def evalBasesWrong : ChangeSpec := { name := "evalBases", fn := fun _ => fun
  | [d1, d2, d3] => { results := [.lit (.bool false)], args := [d1, d2, d3] }
  | _ => none }
def EvalBasesWrongFalsely : Prop := evalBasesRow.holds Tryz.pinned (OpenSpec.ofChange evalBasesWrong)

/-- 'drachmlaw14.EvalNotes': WHATEVER THE INPUT: true; the input reads as it did. -/
def evalNotesSpec : ChangeSpec := { name := "evalNotes", fn := fun _ => fun
  | [d] => { results := [.lit (.bool true)], args := [d] }
  | _ => none }
def evalNotesRow : OpenClaim := { program := "ytamopjeecnhfaaagreatdoor", sum := "5fe8404d716e67fef98a03d505fb1e4397906394eadb541078a9e024a71a0827", func := "drachm/drachmlaw14.EvalNotes", spec := "evalNotes", inPlace := ["internal/bytealg.IndexByteString"], unfollowed := true, recurses := true, named := ["drachm/style.styles", "strconv.ErrSyntax", "strconv.ErrRange", "internal/strconv.uint64pow10", "math/bits.deBruijn32tab", "math/bits.deBruijn64tab", "drachm/atoms.prefixes", "drachm/eval.one", "drachm/frac.tens", "drachm/frac.one"], apart := false, laid := [("math/bits.deBruijn32tab", laid_math_bits_deBruijn32tab), ("math/bits.deBruijn64tab", laid_math_bits_deBruijn64tab), ("internal/strconv.uint64pow10", laid_internal_strconv_uint64pow10), ("strconv.ErrRange", laid_strconv_ErrRange), ("strconv.ErrSyntax", laid_strconv_ErrSyntax), ("drachm/frac.one", laid_drachm_frac_one), ("drachm/frac.tens", laid_drachm_frac_tens), ("drachm/atoms.prefixes", laid_drachm_atoms_prefixes), ("drachm/style.styles", laid_drachm_style_styles), ("drachm/eval.one", laid_drachm_eval_one)] }
def EvalNotesSaid : Prop := evalNotesRow.holds Tryz.pinned (OpenSpec.ofChange evalNotesSpec)

/-- ITS FALSE NEIGHBOUR: 'it returns false'. Refute it at one input. -/
def evalNotesWrong : ChangeSpec := { name := "evalNotes", fn := fun _ => fun
  | [d] => { results := [.lit (.bool false)], args := [d] }
  | _ => none }
def EvalNotesWrongFalsely : Prop := evalNotesRow.holds Tryz.pinned (OpenSpec.ofChange evalNotesWrong)

/-- 'drachmlaw14.EvalTurned': WHATEVER THE INPUT: true; the input reads as it did. -/
def evalTurnedSpec : ChangeSpec := { name := "evalTurned", fn := fun _ => fun
  | [d1, d2] => { results := [.lit (.bool true)], args := [d1, d2] }
  | _ => none }
def evalTurnedRow : OpenClaim := { program := "ytamopjeecnhfaaagreatdoor", sum := "5fe8404d716e67fef98a03d505fb1e4397906394eadb541078a9e024a71a0827", func := "drachm/drachmlaw14.EvalTurned", spec := "evalTurned", inPlace := ["internal/bytealg.IndexByteString"], unfollowed := true, recurses := true, named := ["drachm/style.styles", "strconv.ErrSyntax", "strconv.ErrRange", "internal/strconv.uint64pow10", "math/bits.deBruijn32tab", "math/bits.deBruijn64tab", "drachm/atoms.prefixes", "drachm/eval.one", "drachm/frac.tens", "drachm/frac.one"], apart := false, laid := [("math/bits.deBruijn32tab", laid_math_bits_deBruijn32tab), ("math/bits.deBruijn64tab", laid_math_bits_deBruijn64tab), ("internal/strconv.uint64pow10", laid_internal_strconv_uint64pow10), ("strconv.ErrRange", laid_strconv_ErrRange), ("strconv.ErrSyntax", laid_strconv_ErrSyntax), ("drachm/frac.one", laid_drachm_frac_one), ("drachm/frac.tens", laid_drachm_frac_tens), ("drachm/atoms.prefixes", laid_drachm_atoms_prefixes), ("drachm/style.styles", laid_drachm_style_styles), ("drachm/eval.one", laid_drachm_eval_one)] }
def EvalTurnedSaid : Prop := evalTurnedRow.holds Tryz.pinned (OpenSpec.ofChange evalTurnedSpec)

/-- ITS FALSE NEIGHBOUR: 'it returns false'. Refute it at one input. -/
def evalTurnedWrong : ChangeSpec := { name := "evalTurned", fn := fun _ => fun
  | [d1, d2] => { results := [.lit (.bool false)], args := [d1, d2] }
  | _ => none }
def EvalTurnedWrongFalsely : Prop := evalTurnedRow.holds Tryz.pinned (OpenSpec.ofChange evalTurnedWrong)

/-- 'drachmlaw14.EvalPowers': WHATEVER THE INPUT: true; the input reads as it did. -/
def evalPowersSpec : ChangeSpec := { name := "evalPowers", fn := fun _ => fun
  | [d1, d2] => { results := [.lit (.bool true)], args := [d1, d2] }
  | _ => none }
def evalPowersRow : OpenClaim := { program := "ytamopjeecnhfaaagreatdoor", sum := "5fe8404d716e67fef98a03d505fb1e4397906394eadb541078a9e024a71a0827", func := "drachm/drachmlaw14.EvalPowers", spec := "evalPowers", inPlace := ["internal/bytealg.IndexByteString"], unfollowed := true, recurses := true, named := ["drachm/style.styles", "strconv.ErrSyntax", "strconv.ErrRange", "internal/strconv.uint64pow10", "math/bits.deBruijn32tab", "math/bits.deBruijn64tab", "drachm/atoms.prefixes", "drachm/eval.one", "drachm/frac.tens", "drachm/frac.one"], apart := false, laid := [("math/bits.deBruijn32tab", laid_math_bits_deBruijn32tab), ("math/bits.deBruijn64tab", laid_math_bits_deBruijn64tab), ("internal/strconv.uint64pow10", laid_internal_strconv_uint64pow10), ("strconv.ErrRange", laid_strconv_ErrRange), ("strconv.ErrSyntax", laid_strconv_ErrSyntax), ("drachm/frac.one", laid_drachm_frac_one), ("drachm/frac.tens", laid_drachm_frac_tens), ("drachm/atoms.prefixes", laid_drachm_atoms_prefixes), ("drachm/style.styles", laid_drachm_style_styles), ("drachm/eval.one", laid_drachm_eval_one)] }
def EvalPowersSaid : Prop := evalPowersRow.holds Tryz.pinned (OpenSpec.ofChange evalPowersSpec)

/-- ITS FALSE NEIGHBOUR: 'it returns false'. Refute it at one input. -/
def evalPowersWrong : ChangeSpec := { name := "evalPowers", fn := fun _ => fun
  | [d1, d2] => { results := [.lit (.bool false)], args := [d1, d2] }
  | _ => none }
def EvalPowersWrongFalsely : Prop := evalPowersRow.holds Tryz.pinned (OpenSpec.ofChange evalPowersWrong)

/- THE SECOND FORM. 'bulk': how many values and letters a reading holds, each counted each time it is reached (what is shared counts as often as it is met; a slice's spare places count too). A statement '..UptoSaid' is the law's where the arguments, and the package variables that the reading takes, are together of bulk at most 1048576: NARROWER than '..Said'. Prove '..Said' where nothing that the law and all that it calls make is longer than what came in: it says more and counts as full. Else prove '..UptoSaid'. A law counts once. -/
mutual
def uptoBulk {H : Type} : DataW H → Nat
  | .lit (.string bytes) => bytes.length + 1
  | .lit _ => 1
  | .nil => 1
  | .ptr d => uptoBulk d + 1
  | .slice elems spare => uptoBulkAll elems + uptoBulkAll spare + 1
  | .agg parts => uptoBulkAll parts + 1
  | .iface _ d => uptoBulk d + 1
  | .map entries => uptoBulkEntries entries + 1
  | .held _ => 1
def uptoBulkAll {H : Type} : List (DataW H) → Nat
  | [] => 0
  | d :: r => uptoBulk d + uptoBulkAll r
def uptoBulkEntries {H : Type} : List (Lit × DataW H) → Nat
  | [] => 0
  | x :: r => uptoBulkEntry x + uptoBulkEntries r
def uptoBulkEntry {H : Type} : Lit × DataW H → Nat
  | (.string bytes, d) => bytes.length + uptoBulk d + 1
  | (_, d) => uptoBulk d + 1
 end
def uptoSmall : (H : Type) → List (DataW H) → Bool := fun _ ds => decide (uptoBulkAll ds ≤ 1048576)
def OpenSpec.upto (s : _root_.Go.ChangeSpec) : _root_.Go.OpenSpec := { _root_.Go.OpenSpec.ofChange s with cond := some uptoSmall }

/-- 'drachmlaw14.EvalTells', WHERE WHAT IT READS IS OF BULK AT MOST 1048576: true; the input reads as it did. -/
def evalTellsUptoRow : OpenClaim := { program := "ytamopjeecnhfaaagreatdoor", sum := "5fe8404d716e67fef98a03d505fb1e4397906394eadb541078a9e024a71a0827", func := "drachm/drachmlaw14.EvalTells", spec := "evalTells", inPlace := ["internal/bytealg.IndexByteString"], unfollowed := true, recurses := true, named := ["drachm/style.styles", "strconv.ErrSyntax", "strconv.ErrRange", "internal/strconv.uint64pow10", "math/bits.deBruijn32tab", "math/bits.deBruijn64tab", "drachm/atoms.prefixes", "drachm/eval.one", "drachm/frac.tens", "drachm/frac.one"], apart := false, laid := [("math/bits.deBruijn32tab", laid_math_bits_deBruijn32tab), ("math/bits.deBruijn64tab", laid_math_bits_deBruijn64tab), ("internal/strconv.uint64pow10", laid_internal_strconv_uint64pow10), ("strconv.ErrRange", laid_strconv_ErrRange), ("strconv.ErrSyntax", laid_strconv_ErrSyntax), ("drachm/frac.one", laid_drachm_frac_one), ("drachm/frac.tens", laid_drachm_frac_tens), ("drachm/atoms.prefixes", laid_drachm_atoms_prefixes), ("drachm/style.styles", laid_drachm_style_styles), ("drachm/eval.one", laid_drachm_eval_one)], narrowed := true }
def EvalTellsUptoSaid : Prop := evalTellsUptoRow.holds Tryz.pinned (OpenSpec.upto evalTellsSpec)

/-- 'drachmlaw14.EvalSymbols', WHERE WHAT IT READS IS OF BULK AT MOST 1048576: true; the input reads as it did. -/
def evalSymbolsUptoRow : OpenClaim := { program := "ytamopjeecnhfaaagreatdoor", sum := "5fe8404d716e67fef98a03d505fb1e4397906394eadb541078a9e024a71a0827", func := "drachm/drachmlaw14.EvalSymbols", spec := "evalSymbols", inPlace := ["internal/bytealg.IndexByteString"], unfollowed := true, recurses := true, named := ["drachm/style.styles", "strconv.ErrSyntax", "strconv.ErrRange", "internal/strconv.uint64pow10", "math/bits.deBruijn32tab", "math/bits.deBruijn64tab", "drachm/atoms.prefixes", "drachm/eval.one", "drachm/frac.tens", "drachm/frac.one"], apart := false, laid := [("math/bits.deBruijn32tab", laid_math_bits_deBruijn32tab), ("math/bits.deBruijn64tab", laid_math_bits_deBruijn64tab), ("internal/strconv.uint64pow10", laid_internal_strconv_uint64pow10), ("strconv.ErrRange", laid_strconv_ErrRange), ("strconv.ErrSyntax", laid_strconv_ErrSyntax), ("drachm/frac.one", laid_drachm_frac_one), ("drachm/frac.tens", laid_drachm_frac_tens), ("drachm/atoms.prefixes", laid_drachm_atoms_prefixes), ("drachm/style.styles", laid_drachm_style_styles), ("drachm/eval.one", laid_drachm_eval_one)], narrowed := true }
def EvalSymbolsUptoSaid : Prop := evalSymbolsUptoRow.holds Tryz.pinned (OpenSpec.upto evalSymbolsSpec)

/-- 'drachmlaw14.EvalWhole', WHERE WHAT IT READS IS OF BULK AT MOST 1048576: true; the input reads as it did. -/
def evalWholeUptoRow : OpenClaim := { program := "ytamopjeecnhfaaagreatdoor", sum := "5fe8404d716e67fef98a03d505fb1e4397906394eadb541078a9e024a71a0827", func := "drachm/drachmlaw14.EvalWhole", spec := "evalWhole", inPlace := ["internal/bytealg.IndexByteString"], unfollowed := true, recurses := true, named := ["drachm/style.styles", "strconv.ErrSyntax", "strconv.ErrRange", "internal/strconv.uint64pow10", "math/bits.deBruijn32tab", "math/bits.deBruijn64tab", "drachm/atoms.prefixes", "drachm/eval.one", "drachm/frac.tens", "drachm/frac.one"], apart := false, laid := [("math/bits.deBruijn32tab", laid_math_bits_deBruijn32tab), ("math/bits.deBruijn64tab", laid_math_bits_deBruijn64tab), ("internal/strconv.uint64pow10", laid_internal_strconv_uint64pow10), ("strconv.ErrRange", laid_strconv_ErrRange), ("strconv.ErrSyntax", laid_strconv_ErrSyntax), ("drachm/frac.one", laid_drachm_frac_one), ("drachm/frac.tens", laid_drachm_frac_tens), ("drachm/atoms.prefixes", laid_drachm_atoms_prefixes), ("drachm/style.styles", laid_drachm_style_styles), ("drachm/eval.one", laid_drachm_eval_one)], narrowed := true }
def EvalWholeUptoSaid : Prop := evalWholeUptoRow.holds Tryz.pinned (OpenSpec.upto evalWholeSpec)

/-- 'drachmlaw14.EvalSpecial', WHERE WHAT IT READS IS OF BULK AT MOST 1048576: true; the input reads as it did. -/
def evalSpecialUptoRow : OpenClaim := { program := "ytamopjeecnhfaaagreatdoor", sum := "5fe8404d716e67fef98a03d505fb1e4397906394eadb541078a9e024a71a0827", func := "drachm/drachmlaw14.EvalSpecial", spec := "evalSpecial", inPlace := ["internal/bytealg.IndexByteString"], unfollowed := true, recurses := true, named := ["drachm/style.styles", "strconv.ErrSyntax", "strconv.ErrRange", "internal/strconv.uint64pow10", "math/bits.deBruijn32tab", "math/bits.deBruijn64tab", "drachm/atoms.prefixes", "drachm/eval.one", "drachm/frac.tens", "drachm/frac.one"], apart := false, laid := [("math/bits.deBruijn32tab", laid_math_bits_deBruijn32tab), ("math/bits.deBruijn64tab", laid_math_bits_deBruijn64tab), ("internal/strconv.uint64pow10", laid_internal_strconv_uint64pow10), ("strconv.ErrRange", laid_strconv_ErrRange), ("strconv.ErrSyntax", laid_strconv_ErrSyntax), ("drachm/frac.one", laid_drachm_frac_one), ("drachm/frac.tens", laid_drachm_frac_tens), ("drachm/atoms.prefixes", laid_drachm_atoms_prefixes), ("drachm/style.styles", laid_drachm_style_styles), ("drachm/eval.one", laid_drachm_eval_one)], narrowed := true }
def EvalSpecialUptoSaid : Prop := evalSpecialUptoRow.holds Tryz.pinned (OpenSpec.upto evalSpecialSpec)

/-- 'drachmlaw14.EvalPrefixes', WHERE WHAT IT READS IS OF BULK AT MOST 1048576: true; the input reads as it did. -/
def evalPrefixesUptoRow : OpenClaim := { program := "ytamopjeecnhfaaagreatdoor", sum := "5fe8404d716e67fef98a03d505fb1e4397906394eadb541078a9e024a71a0827", func := "drachm/drachmlaw14.EvalPrefixes", spec := "evalPrefixes", inPlace := ["internal/bytealg.IndexByteString"], unfollowed := true, recurses := true, named := ["drachm/style.styles", "strconv.ErrSyntax", "strconv.ErrRange", "internal/strconv.uint64pow10", "math/bits.deBruijn32tab", "math/bits.deBruijn64tab", "drachm/atoms.prefixes", "drachm/eval.one", "drachm/frac.tens", "drachm/frac.one"], apart := false, laid := [("math/bits.deBruijn32tab", laid_math_bits_deBruijn32tab), ("math/bits.deBruijn64tab", laid_math_bits_deBruijn64tab), ("internal/strconv.uint64pow10", laid_internal_strconv_uint64pow10), ("strconv.ErrRange", laid_strconv_ErrRange), ("strconv.ErrSyntax", laid_strconv_ErrSyntax), ("drachm/frac.one", laid_drachm_frac_one), ("drachm/frac.tens", laid_drachm_frac_tens), ("drachm/atoms.prefixes", laid_drachm_atoms_prefixes), ("drachm/style.styles", laid_drachm_style_styles), ("drachm/eval.one", laid_drachm_eval_one)], narrowed := true }
def EvalPrefixesUptoSaid : Prop := evalPrefixesUptoRow.holds Tryz.pinned (OpenSpec.upto evalPrefixesSpec)

/-- 'drachmlaw14.EvalBases', WHERE WHAT IT READS IS OF BULK AT MOST 1048576: true; the input reads as it did. -/
def evalBasesUptoRow : OpenClaim := { program := "ytamopjeecnhfaaagreatdoor", sum := "5fe8404d716e67fef98a03d505fb1e4397906394eadb541078a9e024a71a0827", func := "drachm/drachmlaw14.EvalBases", spec := "evalBases", inPlace := ["internal/bytealg.IndexByteString"], unfollowed := true, recurses := true, named := ["drachm/style.styles", "strconv.ErrSyntax", "strconv.ErrRange", "internal/strconv.uint64pow10", "math/bits.deBruijn32tab", "math/bits.deBruijn64tab", "drachm/atoms.prefixes", "drachm/eval.one", "drachm/frac.tens", "drachm/frac.one"], apart := false, laid := [("math/bits.deBruijn32tab", laid_math_bits_deBruijn32tab), ("math/bits.deBruijn64tab", laid_math_bits_deBruijn64tab), ("internal/strconv.uint64pow10", laid_internal_strconv_uint64pow10), ("strconv.ErrRange", laid_strconv_ErrRange), ("strconv.ErrSyntax", laid_strconv_ErrSyntax), ("drachm/frac.one", laid_drachm_frac_one), ("drachm/frac.tens", laid_drachm_frac_tens), ("drachm/atoms.prefixes", laid_drachm_atoms_prefixes), ("drachm/style.styles", laid_drachm_style_styles), ("drachm/eval.one", laid_drachm_eval_one)], narrowed := true }
def EvalBasesUptoSaid : Prop := evalBasesUptoRow.holds Tryz.pinned (OpenSpec.upto evalBasesSpec)

/-- 'drachmlaw14.EvalNotes', WHERE WHAT IT READS IS OF BULK AT MOST 1048576: true; the input reads as it did. -/
def evalNotesUptoRow : OpenClaim := { program := "ytamopjeecnhfaaagreatdoor", sum := "5fe8404d716e67fef98a03d505fb1e4397906394eadb541078a9e024a71a0827", func := "drachm/drachmlaw14.EvalNotes", spec := "evalNotes", inPlace := ["internal/bytealg.IndexByteString"], unfollowed := true, recurses := true, named := ["drachm/style.styles", "strconv.ErrSyntax", "strconv.ErrRange", "internal/strconv.uint64pow10", "math/bits.deBruijn32tab", "math/bits.deBruijn64tab", "drachm/atoms.prefixes", "drachm/eval.one", "drachm/frac.tens", "drachm/frac.one"], apart := false, laid := [("math/bits.deBruijn32tab", laid_math_bits_deBruijn32tab), ("math/bits.deBruijn64tab", laid_math_bits_deBruijn64tab), ("internal/strconv.uint64pow10", laid_internal_strconv_uint64pow10), ("strconv.ErrRange", laid_strconv_ErrRange), ("strconv.ErrSyntax", laid_strconv_ErrSyntax), ("drachm/frac.one", laid_drachm_frac_one), ("drachm/frac.tens", laid_drachm_frac_tens), ("drachm/atoms.prefixes", laid_drachm_atoms_prefixes), ("drachm/style.styles", laid_drachm_style_styles), ("drachm/eval.one", laid_drachm_eval_one)], narrowed := true }
def EvalNotesUptoSaid : Prop := evalNotesUptoRow.holds Tryz.pinned (OpenSpec.upto evalNotesSpec)

/-- 'drachmlaw14.EvalTurned', WHERE WHAT IT READS IS OF BULK AT MOST 1048576: true; the input reads as it did. -/
def evalTurnedUptoRow : OpenClaim := { program := "ytamopjeecnhfaaagreatdoor", sum := "5fe8404d716e67fef98a03d505fb1e4397906394eadb541078a9e024a71a0827", func := "drachm/drachmlaw14.EvalTurned", spec := "evalTurned", inPlace := ["internal/bytealg.IndexByteString"], unfollowed := true, recurses := true, named := ["drachm/style.styles", "strconv.ErrSyntax", "strconv.ErrRange", "internal/strconv.uint64pow10", "math/bits.deBruijn32tab", "math/bits.deBruijn64tab", "drachm/atoms.prefixes", "drachm/eval.one", "drachm/frac.tens", "drachm/frac.one"], apart := false, laid := [("math/bits.deBruijn32tab", laid_math_bits_deBruijn32tab), ("math/bits.deBruijn64tab", laid_math_bits_deBruijn64tab), ("internal/strconv.uint64pow10", laid_internal_strconv_uint64pow10), ("strconv.ErrRange", laid_strconv_ErrRange), ("strconv.ErrSyntax", laid_strconv_ErrSyntax), ("drachm/frac.one", laid_drachm_frac_one), ("drachm/frac.tens", laid_drachm_frac_tens), ("drachm/atoms.prefixes", laid_drachm_atoms_prefixes), ("drachm/style.styles", laid_drachm_style_styles), ("drachm/eval.one", laid_drachm_eval_one)], narrowed := true }
def EvalTurnedUptoSaid : Prop := evalTurnedUptoRow.holds Tryz.pinned (OpenSpec.upto evalTurnedSpec)

/-- 'drachmlaw14.EvalPowers', WHERE WHAT IT READS IS OF BULK AT MOST 1048576: true; the input reads as it did. -/
def evalPowersUptoRow : OpenClaim := { program := "ytamopjeecnhfaaagreatdoor", sum := "5fe8404d716e67fef98a03d505fb1e4397906394eadb541078a9e024a71a0827", func := "drachm/drachmlaw14.EvalPowers", spec := "evalPowers", inPlace := ["internal/bytealg.IndexByteString"], unfollowed := true, recurses := true, named := ["drachm/style.styles", "strconv.ErrSyntax", "strconv.ErrRange", "internal/strconv.uint64pow10", "math/bits.deBruijn32tab", "math/bits.deBruijn64tab", "drachm/atoms.prefixes", "drachm/eval.one", "drachm/frac.tens", "drachm/frac.one"], apart := false, laid := [("math/bits.deBruijn32tab", laid_math_bits_deBruijn32tab), ("math/bits.deBruijn64tab", laid_math_bits_deBruijn64tab), ("internal/strconv.uint64pow10", laid_internal_strconv_uint64pow10), ("strconv.ErrRange", laid_strconv_ErrRange), ("strconv.ErrSyntax", laid_strconv_ErrSyntax), ("drachm/frac.one", laid_drachm_frac_one), ("drachm/frac.tens", laid_drachm_frac_tens), ("drachm/atoms.prefixes", laid_drachm_atoms_prefixes), ("drachm/style.styles", laid_drachm_style_styles), ("drachm/eval.one", laid_drachm_eval_one)], narrowed := true }
def EvalPowersUptoSaid : Prop := evalPowersUptoRow.holds Tryz.pinned (OpenSpec.upto evalPowersSpec)

end Rows
end Go.Proofs.YtamopjeecnhfaaaGreatDoor
