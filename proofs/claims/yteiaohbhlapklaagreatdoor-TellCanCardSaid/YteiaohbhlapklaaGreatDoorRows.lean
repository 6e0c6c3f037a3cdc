/-
  NARROWER THAN 'FOR EVERY INPUT', by the rows' own cells (each row's printed sentence says how): PrintTells: laid · PrintBack: laid · PrintShort: laid · PrintMiss: laid · PrintDeep: laid · PrintRaised: laid · TellTells: laid · TellBack: laid · TellWays: laid · TellNames: laid · TellCan: laid · TellOwn: laid.
  DERIVED. THE GIVEN ROWS OF THIS SEAT. 12 by the template 'for every input the law returns true; each argument reads behind the call as it read before'; 0 by the template 'total and deterministic' (their statements: YteiaohbhlapklaaGreatDoorTotals.lean).
  GIVEN WITH THE SEED: the statements are not yours to turn. If you find one false, say at which input.
  Laid BY PROGRAM, IN A SANDBOX (cutbox-rows.mjs): the forced cells as the released guide's own fill.sh prints them over the translation 89e2f11c583db655… (all of the seat's roots in one cut). By AI agents, Wed Nov 11 2026. No macro, syntax, notation, axiom, sorry.
-/
import Derived.Test.YteiaohbhlapklaaGreatDoorChecked
import GoSem.Claim
import GoSem.ClaimJoined
import GoSem.ClaimMapViews
import Derived.JoinedTies
import Derived.KernelRfl
namespace Go.Proofs.YteiaohbhlapklaaGreatDoor
/- THE CELL 'sum', in the pinned program and in every row, IS THE sha256 OF THE DUMP (.gsa) THAT YteiaohbhlapklaaGreatDoorProg.lean LOADS. Nothing in Lean hashes anything: it is a label: what it is worth is what the hold of that sum in a sandbox is worth. -/
noncomputable def Tryz.pinned : Pinned := { name := "yteiaohbhlapklaagreatdoor", sum := "89e2f11c583db655d5b4cd43d005618f15a9a67a725dcc13cf3a7db1cc14c1e2", checked := Tryz.checked }
namespace Rows
def none {H : Type} : Left H := { results := [], args := [] }

/- WHAT THE LISTED PACKAGE-LEVEL VARIABLES READ AS WHEN THE CALL BEGINS. Each datum BY PROGRAM (the guide's laid-datum.mjs) off the statement by which the dump's own 'gosem.cut.vars' lays the variable. In a bare row this is a premise. The card (YteiaohbhlapklaaGreatDoorCards.lean) ties it to the program's text. -/
def laid_math_bits_deBruijn32tab {H : Type} : DataW H := .agg [.lit (.int .u8 0), .lit (.int .u8 1), .lit (.int .u8 28), .lit (.int .u8 2), .lit (.int .u8 29), .lit (.int .u8 14), .lit (.int .u8 24), .lit (.int .u8 3), .lit (.int .u8 30), .lit (.int .u8 22), .lit (.int .u8 20), .lit (.int .u8 15), .lit (.int .u8 25), .lit (.int .u8 17), .lit (.int .u8 4), .lit (.int .u8 8), .lit (.int .u8 31), .lit (.int .u8 27), .lit (.int .u8 13), .lit (.int .u8 23), .lit (.int .u8 21), .lit (.int .u8 19), .lit (.int .u8 16), .lit (.int .u8 7), .lit (.int .u8 26), .lit (.int .u8 12), .lit (.int .u8 18), .lit (.int .u8 6), .lit (.int .u8 11), .lit (.int .u8 5), .lit (.int .u8 10), .lit (.int .u8 9)]
def laid_math_bits_deBruijn64tab {H : Type} : DataW H := .agg [.lit (.int .u8 0), .lit (.int .u8 1), .lit (.int .u8 56), .lit (.int .u8 2), .lit (.int .u8 57), .lit (.int .u8 49), .lit (.int .u8 28), .lit (.int .u8 3), .lit (.int .u8 61), .lit (.int .u8 58), .lit (.int .u8 42), .lit (.int .u8 50), .lit (.int .u8 38), .lit (.int .u8 29), .lit (.int .u8 17), .lit (.int .u8 4), .lit (.int .u8 62), .lit (.int .u8 47), .lit (.int .u8 59), .lit (.int .u8 36), .lit (.int .u8 45), .lit (.int .u8 43), .lit (.int .u8 51), .lit (.int .u8 22), .lit (.int .u8 53), .lit (.int .u8 39), .lit (.int .u8 33), .lit (.int .u8 30), .lit (.int .u8 24), .lit (.int .u8 18), .lit (.int .u8 12), .lit (.int .u8 5), .lit (.int .u8 63), .lit (.int .u8 55), .lit (.int .u8 48), .lit (.int .u8 27), .lit (.int .u8 60), .lit (.int .u8 41), .lit (.int .u8 37), .lit (.int .u8 16), .lit (.int .u8 46), .lit (.int .u8 35), .lit (.int .u8 44), .lit (.int .u8 21), .lit (.int .u8 52), .lit (.int .u8 32), .lit (.int .u8 23), .lit (.int .u8 11), .lit (.int .u8 54), .lit (.int .u8 26), .lit (.int .u8 40), .lit (.int .u8 15), .lit (.int .u8 34), .lit (.int .u8 20), .lit (.int .u8 31), .lit (.int .u8 10), .lit (.int .u8 25), .lit (.int .u8 14), .lit (.int .u8 19), .lit (.int .u8 9), .lit (.int .u8 13), .lit (.int .u8 8), .lit (.int .u8 7), .lit (.int .u8 6)]
def laid_internal_strconv_uint64pow10 {H : Type} : DataW H := .agg [.lit (.int .u64 1), .lit (.int .u64 10), .lit (.int .u64 100), .lit (.int .u64 1000), .lit (.int .u64 10000), .lit (.int .u64 100000), .lit (.int .u64 1000000), .lit (.int .u64 10000000), .lit (.int .u64 100000000), .lit (.int .u64 1000000000), .lit (.int .u64 10000000000), .lit (.int .u64 100000000000), .lit (.int .u64 1000000000000), .lit (.int .u64 10000000000000), .lit (.int .u64 100000000000000), .lit (.int .u64 1000000000000000), .lit (.int .u64 10000000000000000), .lit (.int .u64 100000000000000000), .lit (.int .u64 1000000000000000000), .lit (.int .u64 10000000000000000000)]
def laid_strconv_ErrRange {H : Type} : DataW H := .iface "*errors.errorString" (.ptr (.agg [.lit (.string [118, 97, 108, 117, 101, 32, 111, 117, 116, 32, 111, 102, 32, 114, 97, 110, 103, 101])]))
def laid_strconv_ErrSyntax {H : Type} : DataW H := .iface "*errors.errorString" (.ptr (.agg [.lit (.string [105, 110, 118, 97, 108, 105, 100, 32, 115, 121, 110, 116, 97, 120])]))
def laid_drachm_atoms_prefixes {H : Type} : DataW H := .agg [.agg [.agg [.lit (.string [89]), .lit (.string [89, 65]), .lit (.string [89]), .lit (.string []), .lit (.string [89])], .lit (.int .i64 24)], .agg [.agg [.lit (.string [90]), .lit (.string [90, 65]), .lit (.string [90]), .lit (.string []), .lit (.string [90])], .lit (.int .i64 21)], .agg [.agg [.lit (.string [69]), .lit (.string [69, 88]), .lit (.string [69]), .lit (.string [69]), .lit (.string [69])], .lit (.int .i64 18)], .agg [.agg [.lit (.string [80]), .lit (.string [80, 84]), .lit (.string [80]), .lit (.string [80, 69]), .lit (.string [80])], .lit (.int .i64 15)], .agg [.agg [.lit (.string [84]), .lit (.string [84, 82]), .lit (.string [84]), .lit (.string [84]), .lit (.string [84])], .lit (.int .i64 12)], .agg [.agg [.lit (.string [71]), .lit (.string [71, 65]), .lit (.string [71]), .lit (.string [71]), .lit (.string [71])], .lit (.int .i64 9)], .agg [.agg [.lit (.string [77]), .lit (.string [77, 65]), .lit (.string [77]), .lit (.string [77, 65]), .lit (.string [77])], .lit (.int .i64 6)], .agg [.agg [.lit (.string [107]), .lit (.string [75]), .lit (.string [107]), .lit (.string [75]), .lit (.string [107])], .lit (.int .i64 3)], .agg [.agg [.lit (.string [104]), .lit (.string [72]), .lit (.string [104]), .lit (.string [72]), .lit (.string [104])], .lit (.int .i64 2)], .agg [.agg [.lit (.string [100, 97]), .lit (.string [68, 65]), .lit (.string [100, 97]), .lit (.string [68, 65]), .lit (.string [100, 97])], .lit (.int .i64 1)], .agg [.agg [.lit (.string [100]), .lit (.string [68]), .lit (.string [100]), .lit (.string [68]), .lit (.string [100])], .lit (.int .i64 (-1))], .agg [.agg [.lit (.string [99]), .lit (.string [67]), .lit (.string [99]), .lit (.string [67]), .lit (.string [99])], .lit (.int .i64 (-2))], .agg [.agg [.lit (.string [109]), .lit (.string [77]), .lit (.string [109]), .lit (.string [77]), .lit (.string [109])], .lit (.int .i64 (-3))], .agg [.agg [.lit (.string [117]), .lit (.string [85]), .lit (.string [117]), .lit (.string [85]), .lit (.string [117])], .lit (.int .i64 (-6))], .agg [.agg [.lit (.string [110]), .lit (.string [78]), .lit (.string [110]), .lit (.string [78]), .lit (.string [110])], .lit (.int .i64 (-9))], .agg [.agg [.lit (.string [112]), .lit (.string [80]), .lit (.string [112]), .lit (.string [80]), .lit (.string [112])], .lit (.int .i64 (-12))], .agg [.agg [.lit (.string [102]), .lit (.string [70]), .lit (.string [102]), .lit (.string [70]), .lit (.string [102])], .lit (.int .i64 (-15))], .agg [.agg [.lit (.string [97]), .lit (.string [65]), .lit (.string [97]), .lit (.string [65]), .lit (.string [97])], .lit (.int .i64 (-18))], .agg [.agg [.lit (.string [122]), .lit (.string [90, 79]), .lit (.string [122]), .lit (.string []), .lit (.string [122])], .lit (.int .i64 (-21))], .agg [.agg [.lit (.string [121]), .lit (.string [89, 79]), .lit (.string [121]), .lit (.string []), .lit (.string [121])], .lit (.int .i64 (-24))]]
def laid_drachm_style_styles {H : Type} : DataW H := .agg [.agg [.lit (.bool false), .lit (.int .u8 46), .lit (.int .u8 47), .lit (.int .u8 0), .lit (.int .u8 123), .lit (.int .u8 125)], .agg [.lit (.bool true), .lit (.int .u8 46), .lit (.int .u8 47), .lit (.int .u8 0), .lit (.int .u8 123), .lit (.int .u8 125)], .agg [.lit (.bool false), .lit (.int .u8 42), .lit (.int .u8 47), .lit (.int .u8 94), .lit (.int .u8 60), .lit (.int .u8 62)], .agg [.lit (.bool true), .lit (.int .u8 46), .lit (.int .u8 47), .lit (.int .u8 0), .lit (.int .u8 0), .lit (.int .u8 0)], .agg [.lit (.bool false), .lit (.int .u8 46), .lit (.int .u8 47), .lit (.int .u8 94), .lit (.int .u8 0), .lit (.int .u8 0)]]

/-- 'drachmlaw12.PrintTells': WHATEVER THE INPUT: true; the input reads as it did. -/
def printTellsSpec : ChangeSpec := { name := "printTells", fn := fun _ => fun
  | [d1, d2, d3] => { results := [.lit (.bool true)], args := [d1, d2, d3] }
  | _ => none }
def printTellsRow : OpenClaim := { program := "yteiaohbhlapklaagreatdoor", sum := "89e2f11c583db655d5b4cd43d005618f15a9a67a725dcc13cf3a7db1cc14c1e2", func := "drachm/drachmlaw12.PrintTells", spec := "printTells", inPlace := ["internal/bytealg.IndexByteString"], unfollowed := true, recurses := true, named := ["drachm/style.styles", "strconv.ErrSyntax", "strconv.ErrRange", "internal/strconv.uint64pow10", "math/bits.deBruijn32tab", "math/bits.deBruijn64tab", "drachm/atoms.prefixes"], apart := false, laid := [("math/bits.deBruijn32tab", laid_math_bits_deBruijn32tab), ("math/bits.deBruijn64tab", laid_math_bits_deBruijn64tab), ("internal/strconv.uint64pow10", laid_internal_strconv_uint64pow10), ("strconv.ErrRange", laid_strconv_ErrRange), ("strconv.ErrSyntax", laid_strconv_ErrSyntax), ("drachm/atoms.prefixes", laid_drachm_atoms_prefixes), ("drachm/style.styles", laid_drachm_style_styles)] }
def PrintTellsSaid : Prop := printTellsRow.holds Tryz.pinned (OpenSpec.ofChange printTellsSpec)

/-- ITS FALSE NEIGHBOUR: 'it returns false'. Refute it at one input. -/
def printTellsWrong : ChangeSpec := { name := "printTells", fn := fun _ => fun
  | [d1, d2, d3] => { results := [.lit (.bool false)], args := [d1, d2, d3] }
  | _ => none }
def PrintTellsWrongFalsely : Prop := printTellsRow.holds Tryz.pinned (OpenSpec.ofChange printTellsWrong)

/-- 'drachmlaw12.PrintBack': WHATEVER THE INPUT: true; the input reads as it did. -/
def printBackSpec : ChangeSpec := { name := "printBack", fn := fun _ => fun
  | [d1, d2] => { results := [.lit (.bool true)], args := [d1, d2] }
  | _ => none }
def printBackRow : OpenClaim := { program := "yteiaohbhlapklaagreatdoor", sum := "89e2f11c583db655d5b4cd43d005618f15a9a67a725dcc13cf3a7db1cc14c1e2", func := "drachm/drachmlaw12.PrintBack", spec := "printBack", inPlace := ["internal/bytealg.IndexByteString"], unfollowed := true, recurses := true, named := ["drachm/style.styles", "strconv.ErrSyntax", "strconv.ErrRange", "internal/strconv.uint64pow10", "math/bits.deBruijn32tab", "math/bits.deBruijn64tab", "drachm/atoms.prefixes"], apart := false, laid := [("math/bits.deBruijn32tab", laid_math_bits_deBruijn32tab), ("math/bits.deBruijn64tab", laid_math_bits_deBruijn64tab), ("internal/strconv.uint64pow10", laid_internal_strconv_uint64pow10), ("strconv.ErrRange", laid_strconv_ErrRange), ("strconv.ErrSyntax", laid_strconv_ErrSyntax), ("drachm/atoms.prefixes", laid_drachm_atoms_prefixes), ("drachm/style.styles", laid_drachm_style_styles)] }
def PrintBackSaid : Prop := printBackRow.holds Tryz.pinned (OpenSpec.ofChange printBackSpec)

/-- ITS FALSE NEIGHBOUR: 'it returns false'. Refute it at one input. -/
def printBackWrong : ChangeSpec := { name := "printBack", fn := fun _ => fun
  | [d1, d2] => { results := [.lit (.bool false)], args := [d1, d2] }
  | _ => none }
def PrintBackWrongFalsely : Prop := printBackRow.holds Tryz.pinned (OpenSpec.ofChange printBackWrong)

/-- 'drachmlaw12.PrintShort': WHATEVER THE INPUT: true; the input reads as it did. -/
def printShortSpec : ChangeSpec := { name := "printShort", fn := fun _ => fun
  | [d1, d2, d3] => { results := [.lit (.bool true)], args := [d1, d2, d3] }
  | _ => none }
def printShortRow : OpenClaim := { program := "yteiaohbhlapklaagreatdoor", sum := "89e2f11c583db655d5b4cd43d005618f15a9a67a725dcc13cf3a7db1cc14c1e2", func := "drachm/drachmlaw12.PrintShort", spec := "printShort", inPlace := ["internal/bytealg.IndexByteString"], unfollowed := true, recurses := true, named := ["drachm/style.styles", "strconv.ErrSyntax", "strconv.ErrRange", "internal/strconv.uint64pow10", "math/bits.deBruijn32tab", "math/bits.deBruijn64tab", "drachm/atoms.prefixes"], apart := false, laid := [("math/bits.deBruijn32tab", laid_math_bits_deBruijn32tab), ("math/bits.deBruijn64tab", laid_math_bits_deBruijn64tab), ("internal/strconv.uint64pow10", laid_internal_strconv_uint64pow10), ("strconv.ErrRange", laid_strconv_ErrRange), ("strconv.ErrSyntax", laid_strconv_ErrSyntax), ("drachm/atoms.prefixes", laid_drachm_atoms_prefixes), ("drachm/style.styles", laid_drachm_style_styles)] }
def PrintShortSaid : Prop := printShortRow.holds Tryz.pinned (OpenSpec.ofChange printShortSpec)

/-- ITS FALSE NEIGHBOUR: 'it returns false'. Refute it at one input. -/
def printShortWrong : ChangeSpec := { name := "printShort", fn := fun _ => fun
  | [d1, d2, d3] => { results := [.lit (.bool false)], args := [d1, d2, d3] }
  | _ => none }
def PrintShortWrongFalsely : Prop := printShortRow.holds Tryz.pinned (OpenSpec.ofChange printShortWrong)

/-- 'drachmlaw12.PrintMiss': WHATEVER THE INPUT: true; the input reads as it did. -/
def printMissSpec : ChangeSpec := { name := "printMiss", fn := fun _ => fun
  | [d1, d2] => { results := [.lit (.bool true)], args := [d1, d2] }
  | _ => none }
def printMissRow : OpenClaim := { program := "yteiaohbhlapklaagreatdoor", sum := "89e2f11c583db655d5b4cd43d005618f15a9a67a725dcc13cf3a7db1cc14c1e2", func := "drachm/drachmlaw12.PrintMiss", spec := "printMiss", inPlace := ["internal/bytealg.IndexByteString"], unfollowed := true, recurses := true, named := ["drachm/style.styles", "strconv.ErrSyntax", "strconv.ErrRange", "internal/strconv.uint64pow10", "math/bits.deBruijn32tab", "math/bits.deBruijn64tab", "drachm/atoms.prefixes"], apart := false, laid := [("math/bits.deBruijn32tab", laid_math_bits_deBruijn32tab), ("math/bits.deBruijn64tab", laid_math_bits_deBruijn64tab), ("internal/strconv.uint64pow10", laid_internal_strconv_uint64pow10), ("strconv.ErrRange", laid_strconv_ErrRange), ("strconv.ErrSyntax", laid_strconv_ErrSyntax), ("drachm/atoms.prefixes", laid_drachm_atoms_prefixes), ("drachm/style.styles", laid_drachm_style_styles)] }
def PrintMissSaid : Prop := printMissRow.holds Tryz.pinned (OpenSpec.ofChange printMissSpec)

/-- ITS FALSE NEIGHBOUR: 'it returns false'. Refute it at one input. -/
def printMissWrong : ChangeSpec := { name := "printMiss", fn := fun _ => fun
  | [d1, d2] => { results := [.lit (.bool false)], args := [d1, d2] }
  | _ => none }
def PrintMissWrongFalsely : Prop := printMissRow.holds Tryz.pinned (OpenSpec.ofChange printMissWrong)

/-- 'drachmlaw12.PrintDeep': WHATEVER THE INPUT: true; the input reads as it did. -/
def printDeepSpec : ChangeSpec := { name := "printDeep", fn := fun _ => fun
  | [d1, d2] => { results := [.lit (.bool true)], args := [d1, d2] }
  | _ => none }
def printDeepRow : OpenClaim := { program := "yteiaohbhlapklaagreatdoor", sum := "89e2f11c583db655d5b4cd43d005618f15a9a67a725dcc13cf3a7db1cc14c1e2", func := "drachm/drachmlaw12.PrintDeep", spec := "printDeep", inPlace := ["internal/bytealg.IndexByteString"], unfollowed := true, recurses := true, named := ["drachm/style.styles", "strconv.ErrSyntax", "strconv.ErrRange", "internal/strconv.uint64pow10", "math/bits.deBruijn32tab", "math/bits.deBruijn64tab", "drachm/atoms.prefixes"], apart := false, laid := [("math/bits.deBruijn32tab", laid_math_bits_deBruijn32tab), ("math/bits.deBruijn64tab", laid_math_bits_deBruijn64tab), ("internal/strconv.uint64pow10", laid_internal_strconv_uint64pow10), ("strconv.ErrRange", laid_strconv_ErrRange), ("strconv.ErrSyntax", laid_strconv_ErrSyntax), ("drachm/atoms.prefixes", laid_drachm_atoms_prefixes), ("drachm/style.styles", laid_drachm_style_styles)] }
def PrintDeepSaid : Prop := printDeepRow.holds Tryz.pinned (OpenSpec.ofChange printDeepSpec)

/-- ITS FALSE NEIGHBOUR: 'it returns false'. Refute it at one input. -/
def printDeepWrong : ChangeSpec := { name := "printDeep", fn := fun _ => fun
  | [d1, d2] => { results := [.lit (.bool false)], args := [d1, d2] }
  | _ => none }
def PrintDeepWrongFalsely : Prop := printDeepRow.holds Tryz.pinned (OpenSpec.ofChange printDeepWrong)

/-- 'drachmlaw12.PrintRaised': WHATEVER THE INPUT: true; the input reads as it did. -/
def printRaisedSpec : ChangeSpec := { name := "printRaised", fn := fun _ => fun
  | [d1, d2] => { results := [.lit (.bool true)], args := [d1, d2] }
  | _ => none }
def printRaisedRow : OpenClaim := { program := "yteiaohbhlapklaagreatdoor", sum := "89e2f11c583db655d5b4cd43d005618f15a9a67a725dcc13cf3a7db1cc14c1e2", func := "drachm/drachmlaw12.PrintRaised", spec := "printRaised", inPlace := ["internal/bytealg.IndexByteString"], unfollowed := true, recurses := true, named := ["drachm/style.styles", "strconv.ErrSyntax", "strconv.ErrRange", "internal/strconv.uint64pow10", "math/bits.deBruijn32tab", "math/bits.deBruijn64tab", "drachm/atoms.prefixes"], apart := false, laid := [("math/bits.deBruijn32tab", laid_math_bits_deBruijn32tab), ("math/bits.deBruijn64tab", laid_math_bits_deBruijn64tab), ("internal/strconv.uint64pow10", laid_internal_strconv_uint64pow10), ("strconv.ErrRange", laid_strconv_ErrRange), ("strconv.ErrSyntax", laid_strconv_ErrSyntax), ("drachm/atoms.prefixes", laid_drachm_atoms_prefixes), ("drachm/style.styles", laid_drachm_style_styles)] }
def PrintRaisedSaid : Prop := printRaisedRow.holds Tryz.pinned (OpenSpec.ofChange printRaisedSpec)

/-- ITS FALSE NEIGHBOUR: 'it returns false'. Refute it at one input. -/
def printRaisedWrong : ChangeSpec := { name := "printRaised", fn := fun _ => fun
  | [d1, d2] => { results := [.lit (.bool false)], args := [d1, d2] }
  | _ => none }
def PrintRaisedWrongFalsely : Prop := printRaisedRow.holds Tryz.pinned (OpenSpec.ofChange printRaisedWrong)

/-- 'drachmlaw13.TellTells': WHATEVER THE INPUT: true; the input reads as it did. -/
def tellTellsSpec : ChangeSpec := { name := "tellTells", fn := fun _ => fun
  | [d1, d2, d3] => { results := [.lit (.bool true)], args := [d1, d2, d3] }
  | _ => none }
def tellTellsRow : OpenClaim := { program := "yteiaohbhlapklaagreatdoor", sum := "89e2f11c583db655d5b4cd43d005618f15a9a67a725dcc13cf3a7db1cc14c1e2", func := "drachm/drachmlaw13.TellTells", spec := "tellTells", inPlace := ["internal/bytealg.IndexByteString"], unfollowed := true, recurses := true, named := ["drachm/style.styles", "strconv.ErrSyntax", "strconv.ErrRange", "internal/strconv.uint64pow10", "math/bits.deBruijn32tab", "math/bits.deBruijn64tab", "drachm/atoms.prefixes"], apart := false, laid := [("math/bits.deBruijn32tab", laid_math_bits_deBruijn32tab), ("math/bits.deBruijn64tab", laid_math_bits_deBruijn64tab), ("internal/strconv.uint64pow10", laid_internal_strconv_uint64pow10), ("strconv.ErrRange", laid_strconv_ErrRange), ("strconv.ErrSyntax", laid_strconv_ErrSyntax), ("drachm/atoms.prefixes", laid_drachm_atoms_prefixes), ("drachm/style.styles", laid_drachm_style_styles)] }
def TellTellsSaid : Prop := tellTellsRow.holds Tryz.pinned (OpenSpec.ofChange tellTellsSpec)

/-- ITS FALSE NEIGHBOUR: 'it returns false'. Refute it at one input. -/
def tellTellsWrong : ChangeSpec := { name := "tellTells", fn := fun _ => fun
  | [d1, d2, d3] => { results := [.lit (.bool false)], args := [d1, d2, d3] }
  | _ => none }
def TellTellsWrongFalsely : Prop := tellTellsRow.holds Tryz.pinned (OpenSpec.ofChange tellTellsWrong)

/-- 'drachmlaw13.TellBack': WHATEVER THE INPUT: true; the input reads as it did. -/
def tellBackSpec : ChangeSpec := { name := "tellBack", fn := fun _ => fun
  | [d1, d2] => { results := [.lit (.bool true)], args := [d1, d2] }
  | _ => none }
def tellBackRow : OpenClaim := { program := "yteiaohbhlapklaagreatdoor", sum := "89e2f11c583db655d5b4cd43d005618f15a9a67a725dcc13cf3a7db1cc14c1e2", func := "drachm/drachmlaw13.TellBack", spec := "tellBack", inPlace := ["internal/bytealg.IndexByteString"], unfollowed := true, recurses := true, named := ["drachm/style.styles", "strconv.ErrSyntax", "strconv.ErrRange", "internal/strconv.uint64pow10", "math/bits.deBruijn32tab", "math/bits.deBruijn64tab", "drachm/atoms.prefixes"], apart := false, laid := [("math/bits.deBruijn32tab", laid_math_bits_deBruijn32tab), ("math/bits.deBruijn64tab", laid_math_bits_deBruijn64tab), ("internal/strconv.uint64pow10", laid_internal_strconv_uint64pow10), ("strconv.ErrRange", laid_strconv_ErrRange), ("strconv.ErrSyntax", laid_strconv_ErrSyntax), ("drachm/atoms.prefixes", laid_drachm_atoms_prefixes), ("drachm/style.styles", laid_drachm_style_styles)] }
def TellBackSaid : Prop := tellBackRow.holds Tryz.pinned (OpenSpec.ofChange tellBackSpec)

/-- ITS FALSE NEIGHBOUR: 'it returns false'. Refute it at one input. -/
def tellBackWrong : ChangeSpec := { name := "tellBack", fn := fun _ => fun
  | [d1, d2] => { results := [.lit (.bool false)], args := [d1, d2] }
  | _ => none }
def TellBackWrongFalsely : Prop := tellBackRow.holds Tryz.pinned (OpenSpec.ofChange tellBackWrong)

/-- 'drachmlaw13.TellWays': WHATEVER THE INPUT: true; the input reads as it did. -/
def tellWaysSpec : ChangeSpec := { name := "tellWays", fn := fun _ => fun
  | [d1, d2] => { results := [.lit (.bool true)], args := [d1, d2] }
  | _ => none }
def tellWaysRow : OpenClaim := { program := "yteiaohbhlapklaagreatdoor", sum := "89e2f11c583db655d5b4cd43d005618f15a9a67a725dcc13cf3a7db1cc14c1e2", func := "drachm/drachmlaw13.TellWays", spec := "tellWays", inPlace := ["internal/bytealg.IndexByteString"], unfollowed := true, recurses := true, named := ["drachm/style.styles", "strconv.ErrSyntax", "strconv.ErrRange", "internal/strconv.uint64pow10", "math/bits.deBruijn32tab", "math/bits.deBruijn64tab", "drachm/atoms.prefixes"], apart := false, laid := [("math/bits.deBruijn32tab", laid_math_bits_deBruijn32tab), ("math/bits.deBruijn64tab", laid_math_bits_deBruijn64tab), ("internal/strconv.uint64pow10", laid_internal_strconv_uint64pow10), ("strconv.ErrRange", laid_strconv_ErrRange), ("strconv.ErrSyntax", laid_strconv_ErrSyntax), ("drachm/atoms.prefixes", laid_drachm_atoms_prefixes), ("drachm/style.styles", laid_drachm_style_styles)] }
def TellWaysSaid : Prop := tellWaysRow.holds Tryz.pinned (OpenSpec.ofChange tellWaysSpec)

/-- ITS FALSE NEIGHBOUR: 'it returns false'. Refute it at one input. -/
def tellWaysWrong : ChangeSpec := { name := "tellWays", fn := fun _ => fun
  | [d1, d2] => { results := [.lit (.bool false)], args := [d1, d2] }
  | _ => none }
def TellWaysWrongFalsely : Prop := tellWaysRow.holds Tryz.pinned (OpenSpec.ofChange tellWaysWrong)

/-- 'drachmlaw13.TellNames': WHATEVER THE INPUT: true; the input reads as it did. -/
def tellNamesSpec : ChangeSpec := { name := "tellNames", fn := fun _ => fun
  | [d1, d2] => { results := [.lit (.bool true)], args := [d1, d2] }
  | _ => none }
def tellNamesRow : OpenClaim := { program := "yteiaohbhlapklaagreatdoor", sum := "89e2f11c583db655d5b4cd43d005618f15a9a67a725dcc13cf3a7db1cc14c1e2", func := "drachm/drachmlaw13.TellNames", spec := "tellNames", inPlace := ["internal/bytealg.IndexByteString"], unfollowed := true, recurses := true, named := ["drachm/style.styles", "strconv.ErrSyntax", "strconv.ErrRange", "internal/strconv.uint64pow10", "math/bits.deBruijn32tab", "math/bits.deBruijn64tab", "drachm/atoms.prefixes"], apart := false, laid := [("math/bits.deBruijn32tab", laid_math_bits_deBruijn32tab), ("math/bits.deBruijn64tab", laid_math_bits_deBruijn64tab), ("internal/strconv.uint64pow10", laid_internal_strconv_uint64pow10), ("strconv.ErrRange", laid_strconv_ErrRange), ("strconv.ErrSyntax", laid_strconv_ErrSyntax), ("drachm/atoms.prefixes", laid_drachm_atoms_prefixes), ("drachm/style.styles", laid_drachm_style_styles)] }
def TellNamesSaid : Prop := tellNamesRow.holds Tryz.pinned (OpenSpec.ofChange tellNamesSpec)

/-- ITS FALSE NEIGHBOUR: 'it returns false'. Refute it at one input. -/
def tellNamesWrong : ChangeSpec := { name := "tellNames", fn := fun _ => fun
  | [d1, d2] => { results := [.lit (.bool false)], args := [d1, d2] }
  | _ => none }
def TellNamesWrongFalsely : Prop := tellNamesRow.holds Tryz.pinned (OpenSpec.ofChange tellNamesWrong)

/-- 'drachmlaw13.TellCan': WHATEVER THE INPUT: true; the input reads as it did. -/
def tellCanSpec : ChangeSpec := { name := "tellCan", fn := fun _ => fun
  | [d1, d2] => { results := [.lit (.bool true)], args := [d1, d2] }
  | _ => none }
def tellCanRow : OpenClaim := { program := "yteiaohbhlapklaagreatdoor", sum := "89e2f11c583db655d5b4cd43d005618f15a9a67a725dcc13cf3a7db1cc14c1e2", func := "drachm/drachmlaw13.TellCan", spec := "tellCan", inPlace := ["internal/bytealg.IndexByteString"], unfollowed := true, recurses := true, named := ["drachm/style.styles", "strconv.ErrSyntax", "strconv.ErrRange", "internal/strconv.uint64pow10", "math/bits.deBruijn32tab", "math/bits.deBruijn64tab", "drachm/atoms.prefixes"], apart := false, laid := [("math/bits.deBruijn32tab", laid_math_bits_deBruijn32tab), ("math/bits.deBruijn64tab", laid_math_bits_deBruijn64tab), ("internal/strconv.uint64pow10", laid_internal_strconv_uint64pow10), ("strconv.ErrRange", laid_strconv_ErrRange), ("strconv.ErrSyntax", laid_strconv_ErrSyntax), ("drachm/atoms.prefixes", laid_drachm_atoms_prefixes), ("drachm/style.styles", laid_drachm_style_styles)] }
def TellCanSaid : Prop := tellCanRow.holds Tryz.pinned (OpenSpec.ofChange tellCanSpec)

/-- ITS FALSE NEIGHBOUR: 'it returns false'. Refute it at one input. -/
def tellCanWrong : ChangeSpec := { name := "tellCan", fn := fun _ => fun
  | [d1, d2] => { results := [.lit (.bool false)], args := [d1, d2] }
  | _ => none }
def TellCanWrongFalsely : Prop := tellCanRow.holds Tryz.pinned (OpenSpec.ofChange tellCanWrong)

/-- 'drachmlaw13.TellOwn': WHATEVER THE INPUT: true; the input reads as it did. -/
def tellOwnSpec : ChangeSpec := { name := "tellOwn", fn := fun _ => fun
  | [d1, d2] => { results := [.lit (.bool true)], args := [d1, d2] }
  | _ => none }
def tellOwnRow : OpenClaim := { program := "yteiaohbhlapklaagreatdoor", sum := "89e2f11c583db655d5b4cd43d005618f15a9a67a725dcc13cf3a7db1cc14c1e2", func := "drachm/drachmlaw13.TellOwn", spec := "tellOwn", inPlace := ["internal/bytealg.IndexByteString"], unfollowed := true, recurses := true, named := ["drachm/style.styles", "strconv.ErrSyntax", "strconv.ErrRange", "internal/strconv.uint64pow10", "math/bits.deBruijn32tab", "math/bits.deBruijn64tab", "drachm/atoms.prefixes"], apart := false, laid := [("math/bits.deBruijn32tab", laid_math_bits_deBruijn32tab), ("math/bits.deBruijn64tab", laid_math_bits_deBruijn64tab), ("internal/strconv.uint64pow10", laid_internal_strconv_uint64pow10), ("strconv.ErrRange", laid_strconv_ErrRange), ("strconv.ErrSyntax", laid_strconv_ErrSyntax), ("drachm/atoms.prefixes", laid_drachm_atoms_prefixes), ("drachm/style.styles", laid_drachm_style_styles)] }
def TellOwnSaid : Prop := tellOwnRow.holds Tryz.pinned (OpenSpec.ofChange tellOwnSpec)

/-- ITS FALSE NEIGHBOUR: 'it returns false'. Refute it at one input. -/
def tellOwnWrong : ChangeSpec := { name := "tellOwn", fn := fun _ => fun
  | [d1, d2] => { results := [.lit (.bool false)], args := [d1, d2] }
  | _ => none }
def TellOwnWrongFalsely : Prop := tellOwnRow.holds Tryz.pinned (OpenSpec.ofChange tellOwnWrong)

/- THE SECOND FORM. 'bulk': how many values and letters a reading holds, each counted each time it is reached (what is shared counts as often as it is met; a slice's spare places count too). A statement '..UptoSaid' is the law's where the arguments, and the package variables that the reading takes, are together of bulk at most 1048576: NARROWER than '..Said'. Prove '..Said' where nothing that the law and all that it calls make is longer than what came in: it says more and counts as full. Else prove '..UptoSaid'. A law counts once. -/
mutual
def uptoBulk {H : Type} : DataW H → Nat
  | .lit (.string bytes) => bytes.length + 1
  | .lit _ => 1
  | .nil => 1
  | .ptr d => uptoBulk d + 1
  | .slice elems spare => uptoBulkAll elems + uptoBulkAll spare + 1
  | .agg parts => uptoBulkAll parts + 1
  | .iface _ d => uptoBulk d + 1
  | .map entries => uptoBulkEntries entries + 1
  | .held _ => 1
def uptoBulkAll {H : Type} : List (DataW H) → Nat
  | [] => 0
  | d :: r => uptoBulk d + uptoBulkAll r
def uptoBulkEntries {H : Type} : List (Lit × DataW H) → Nat
  | [] => 0
  | x :: r => uptoBulkEntry x + uptoBulkEntries r
def uptoBulkEntry {H : Type} : Lit × DataW H → Nat
  | (.string bytes, d) => bytes.length + uptoBulk d + 1
  | (_, d) => uptoBulk d + 1
 end
def uptoSmall : (H : Type) → List (DataW H) → Bool := fun _ ds => decide (uptoBulkAll ds ≤ 1048576)
def OpenSpec.upto (s : _root_.Go.ChangeSpec) : _root_.Go.OpenSpec := { _root_.Go.OpenSpec.ofChange s with cond := some uptoSmall }

/-- 'drachmlaw12.PrintTells', WHERE WHAT IT READS IS OF BULK AT MOST 1048576: true; the input reads as it did. -/
def printTellsUptoRow : OpenClaim := { program := "yteiaohbhlapklaagreatdoor", sum := "89e2f11c583db655d5b4cd43d005618f15a9a67a725dcc13cf3a7db1cc14c1e2", func := "drachm/drachmlaw12.PrintTells", spec := "printTells", inPlace := ["internal/bytealg.IndexByteString"], unfollowed := true, recurses := true, named := ["drachm/style.styles", "strconv.ErrSyntax", "strconv.ErrRange", "internal/strconv.uint64pow10", "math/bits.deBruijn32tab", "math/bits.deBruijn64tab", "drachm/atoms.prefixes"], apart := false, laid := [("math/bits.deBruijn32tab", laid_math_bits_deBruijn32tab), ("math/bits.deBruijn64tab", laid_math_bits_deBruijn64tab), ("internal/strconv.uint64pow10", laid_internal_strconv_uint64pow10), ("strconv.ErrRange", laid_strconv_ErrRange), ("strconv.ErrSyntax", laid_strconv_ErrSyntax), ("drachm/atoms.prefixes", laid_drachm_atoms_prefixes), ("drachm/style.styles", laid_drachm_style_styles)], narrowed := true }
def PrintTellsUptoSaid : Prop := printTellsUptoRow.holds Tryz.pinned (OpenSpec.upto printTellsSpec)

/-- 'drachmlaw12.PrintBack', WHERE WHAT IT READS IS OF BULK AT MOST 1048576: true; the input reads as it did. -/
def printBackUptoRow : OpenClaim := { program := "yteiaohbhlapklaagreatdoor", sum := "89e2f11c583db655d5b4cd43d005618f15a9a67a725dcc13cf3a7db1cc14c1e2", func := "drachm/drachmlaw12.PrintBack", spec := "printBack", inPlace := ["internal/bytealg.IndexByteString"], unfollowed := true, recurses := true, named := ["drachm/style.styles", "strconv.ErrSyntax", "strconv.ErrRange", "internal/strconv.uint64pow10", "math/bits.deBruijn32tab", "math/bits.deBruijn64tab", "drachm/atoms.prefixes"], apart := false, laid := [("math/bits.deBruijn32tab", laid_math_bits_deBruijn32tab), ("math/bits.deBruijn64tab", laid_math_bits_deBruijn64tab), ("internal/strconv.uint64pow10", laid_internal_strconv_uint64pow10), ("strconv.ErrRange", laid_strconv_ErrRange), ("strconv.ErrSyntax", laid_strconv_ErrSyntax), ("drachm/atoms.prefixes", laid_drachm_atoms_prefixes), ("drachm/style.styles", laid_drachm_style_styles)], narrowed := true }
def PrintBackUptoSaid : Prop := printBackUptoRow.holds Tryz.pinned (OpenSpec.upto printBackSpec)

/-- 'drachmlaw12.PrintShort', WHERE WHAT IT READS IS OF BULK AT MOST 1048576: true; the input reads as it did. -/
def printShortUptoRow : OpenClaim := { program := "yteiaohbhlapklaagreatdoor", sum := "89e2f11c583db655d5b4cd43d005618f15a9a67a725dcc13cf3a7db1cc14c1e2", func := "drachm/drachmlaw12.PrintShort", spec := "printShort", inPlace := ["internal/bytealg.IndexByteString"], unfollowed := true, recurses := true, named := ["drachm/style.styles", "strconv.ErrSyntax", "strconv.ErrRange", "internal/strconv.uint64pow10", "math/bits.deBruijn32tab", "math/bits.deBruijn64tab", "drachm/atoms.prefixes"], apart := false, laid := [("math/bits.deBruijn32tab", laid_math_bits_deBruijn32tab), ("math/bits.deBruijn64tab", laid_math_bits_deBruijn64tab), ("internal/strconv.uint64pow10", laid_internal_strconv_uint64pow10), ("strconv.ErrRange", laid_strconv_ErrRange), ("strconv.ErrSyntax", laid_strconv_ErrSyntax), ("drachm/atoms.prefixes", laid_drachm_atoms_prefixes), ("drachm/style.styles", laid_drachm_style_styles)], narrowed := true }
def PrintShortUptoSaid : Prop := printShortUptoRow.holds Tryz.pinned (OpenSpec.upto printShortSpec)

/-- 'drachmlaw12.PrintMiss', WHERE WHAT IT READS IS OF BULK AT MOST 1048576: true; the input reads as it did. -/
def printMissUptoRow : OpenClaim := { program := "yteiaohbhlapklaagreatdoor", sum := "89e2f11c583db655d5b4cd43d005618f15a9a67a725dcc13cf3a7db1cc14c1e2", func := "drachm/drachmlaw12.PrintMiss", spec := "printMiss", inPlace := ["internal/bytealg.IndexByteString"], unfollowed := true, recurses := true, named := ["drachm/style.styles", "strconv.ErrSyntax", "strconv.ErrRange", "internal/strconv.uint64pow10", "math/bits.deBruijn32tab", "math/bits.deBruijn64tab", "drachm/atoms.prefixes"], apart := false, laid := [("math/bits.deBruijn32tab", laid_math_bits_deBruijn32tab), ("math/bits.deBruijn64tab", laid_math_bits_deBruijn64tab), ("internal/strconv.uint64pow10", laid_internal_strconv_uint64pow10), ("strconv.ErrRange", laid_strconv_ErrRange), ("strconv.ErrSyntax", laid_strconv_ErrSyntax), ("drachm/atoms.prefixes", laid_drachm_atoms_prefixes), ("drachm/style.styles", laid_drachm_style_styles)], narrowed := true }
def PrintMissUptoSaid : Prop := printMissUptoRow.holds Tryz.pinned (OpenSpec.upto printMissSpec)

/-- 'drachmlaw12.PrintDeep', WHERE WHAT IT READS IS OF BULK AT MOST 1048576: true; the input reads as it did. -/
def printDeepUptoRow : OpenClaim := { program := "yteiaohbhlapklaagreatdoor", sum := "89e2f11c583db655d5b4cd43d005618f15a9a67a725dcc13cf3a7db1cc14c1e2", func := "drachm/drachmlaw12.PrintDeep", spec := "printDeep", inPlace := ["internal/bytealg.IndexByteString"], unfollowed := true, recurses := true, named := ["drachm/style.styles", "strconv.ErrSyntax", "strconv.ErrRange", "internal/strconv.uint64pow10", "math/bits.deBruijn32tab", "math/bits.deBruijn64tab", "drachm/atoms.prefixes"], apart := false, laid := [("math/bits.deBruijn32tab", laid_math_bits_deBruijn32tab), ("math/bits.deBruijn64tab", laid_math_bits_deBruijn64tab), ("internal/strconv.uint64pow10", laid_internal_strconv_uint64pow10), ("strconv.ErrRange", laid_strconv_ErrRange), ("strconv.ErrSyntax", laid_strconv_ErrSyntax), ("drachm/atoms.prefixes", laid_drachm_atoms_prefixes), ("drachm/style.styles", laid_drachm_style_styles)], narrowed := true }
def PrintDeepUptoSaid : Prop := printDeepUptoRow.holds Tryz.pinned (OpenSpec.upto printDeepSpec)

/-- 'drachmlaw12.PrintRaised', WHERE WHAT IT READS IS OF BULK AT MOST 1048576: true; the input reads as it did. -/
def printRaisedUptoRow : OpenClaim := { program := "yteiaohbhlapklaagreatdoor", sum := "89e2f11c583db655d5b4cd43d005618f15a9a67a725dcc13cf3a7db1cc14c1e2", func := "drachm/drachmlaw12.PrintRaised", spec := "printRaised", inPlace := ["internal/bytealg.IndexByteString"], unfollowed := true, recurses := true, named := ["drachm/style.styles", "strconv.ErrSyntax", "strconv.ErrRange", "internal/strconv.uint64pow10", "math/bits.deBruijn32tab", "math/bits.deBruijn64tab", "drachm/atoms.prefixes"], apart := false, laid := [("math/bits.deBruijn32tab", laid_math_bits_deBruijn32tab), ("math/bits.deBruijn64tab", laid_math_bits_deBruijn64tab), ("internal/strconv.uint64pow10", laid_internal_strconv_uint64pow10), ("strconv.ErrRange", laid_strconv_ErrRange), ("strconv.ErrSyntax", laid_strconv_ErrSyntax), ("drachm/atoms.prefixes", laid_drachm_atoms_prefixes), ("drachm/style.styles", laid_drachm_style_styles)], narrowed := true }
def PrintRaisedUptoSaid : Prop := printRaisedUptoRow.holds Tryz.pinned (OpenSpec.upto printRaisedSpec)

/-- 'drachmlaw13.TellTells', WHERE WHAT IT READS IS OF BULK AT MOST 1048576: true; the input reads as it did. -/
def tellTellsUptoRow : OpenClaim := { program := "yteiaohbhlapklaagreatdoor", sum := "89e2f11c583db655d5b4cd43d005618f15a9a67a725dcc13cf3a7db1cc14c1e2", func := "drachm/drachmlaw13.TellTells", spec := "tellTells", inPlace := ["internal/bytealg.IndexByteString"], unfollowed := true, recurses := true, named := ["drachm/style.styles", "strconv.ErrSyntax", "strconv.ErrRange", "internal/strconv.uint64pow10", "math/bits.deBruijn32tab", "math/bits.deBruijn64tab", "drachm/atoms.prefixes"], apart := false, laid := [("math/bits.deBruijn32tab", laid_math_bits_deBruijn32tab), ("math/bits.deBruijn64tab", laid_math_bits_deBruijn64tab), ("internal/strconv.uint64pow10", laid_internal_strconv_uint64pow10), ("strconv.ErrRange", laid_strconv_ErrRange), ("strconv.ErrSyntax", laid_strconv_ErrSyntax), ("drachm/atoms.prefixes", laid_drachm_atoms_prefixes), ("drachm/style.styles", laid_drachm_style_styles)], narrowed := true }
def TellTellsUptoSaid : Prop := tellTellsUptoRow.holds Tryz.pinned (OpenSpec.upto tellTellsSpec)

/-- 'drachmlaw13.TellBack', WHERE WHAT IT READS IS OF BULK AT MOST 1048576: true; the input reads as it did. -/
def tellBackUptoRow : OpenClaim := { program := "yteiaohbhlapklaagreatdoor", sum := "89e2f11c583db655d5b4cd43d005618f15a9a67a725dcc13cf3a7db1cc14c1e2", func := "drachm/drachmlaw13.TellBack", spec := "tellBack", inPlace := ["internal/bytealg.IndexByteString"], unfollowed := true, recurses := true, named := ["drachm/style.styles", "strconv.ErrSyntax", "strconv.ErrRange", "internal/strconv.uint64pow10", "math/bits.deBruijn32tab", "math/bits.deBruijn64tab", "drachm/atoms.prefixes"], apart := false, laid := [("math/bits.deBruijn32tab", laid_math_bits_deBruijn32tab), ("math/bits.deBruijn64tab", laid_math_bits_deBruijn64tab), ("internal/strconv.uint64pow10", laid_internal_strconv_uint64pow10), ("strconv.ErrRange", laid_strconv_ErrRange), ("strconv.ErrSyntax", laid_strconv_ErrSyntax), ("drachm/atoms.prefixes", laid_drachm_atoms_prefixes), ("drachm/style.styles", laid_drachm_style_styles)], narrowed := true }
def TellBackUptoSaid : Prop := tellBackUptoRow.holds Tryz.pinned (OpenSpec.upto tellBackSpec)

/-- 'drachmlaw13.TellWays', WHERE WHAT IT READS IS OF BULK AT MOST 1048576: true; the input reads as it did. -/
def tellWaysUptoRow : OpenClaim := { program := "yteiaohbhlapklaagreatdoor", sum := "89e2f11c583db655d5b4cd43d005618f15a9a67a725dcc13cf3a7db1cc14c1e2", func := "drachm/drachmlaw13.TellWays", spec := "tellWays", inPlace := ["internal/bytealg.IndexByteString"], unfollowed := true, recurses := true, named := ["drachm/style.styles", "strconv.ErrSyntax", "strconv.ErrRange", "internal/strconv.uint64pow10", "math/bits.deBruijn32tab", "math/bits.deBruijn64tab", "drachm/atoms.prefixes"], apart := false, laid := [("math/bits.deBruijn32tab", laid_math_bits_deBruijn32tab), ("math/bits.deBruijn64tab", laid_math_bits_deBruijn64tab), ("internal/strconv.uint64pow10", laid_internal_strconv_uint64pow10), ("strconv.ErrRange", laid_strconv_ErrRange), ("strconv.ErrSyntax", laid_strconv_ErrSyntax), ("drachm/atoms.prefixes", laid_drachm_atoms_prefixes), ("drachm/style.styles", laid_drachm_style_styles)], narrowed := true }
def TellWaysUptoSaid : Prop := tellWaysUptoRow.holds Tryz.pinned (OpenSpec.upto tellWaysSpec)

/-- 'drachmlaw13.TellNames', WHERE WHAT IT READS IS OF BULK AT MOST 1048576: true; the input reads as it did. -/
def tellNamesUptoRow : OpenClaim := { program := "yteiaohbhlapklaagreatdoor", sum := "89e2f11c583db655d5b4cd43d005618f15a9a67a725dcc13cf3a7db1cc14c1e2", func := "drachm/drachmlaw13.TellNames", spec := "tellNames", inPlace := ["internal/bytealg.IndexByteString"], unfollowed := true, recurses := true, named := ["drachm/style.styles", "strconv.ErrSyntax", "strconv.ErrRange", "internal/strconv.uint64pow10", "math/bits.deBruijn32tab", "math/bits.deBruijn64tab", "drachm/atoms.prefixes"], apart := false, laid := [("math/bits.deBruijn32tab", laid_math_bits_deBruijn32tab), ("math/bits.deBruijn64tab", laid_math_bits_deBruijn64tab), ("internal/strconv.uint64pow10", laid_internal_strconv_uint64pow10), ("strconv.ErrRange", laid_strconv_ErrRange), ("strconv.ErrSyntax", laid_strconv_ErrSyntax), ("drachm/atoms.prefixes", laid_drachm_atoms_prefixes), ("drachm/style.styles", laid_drachm_style_styles)], narrowed := true }
def TellNamesUptoSaid : Prop := tellNamesUptoRow.holds Tryz.pinned (OpenSpec.upto tellNamesSpec)

/-- 'drachmlaw13.TellCan', WHERE WHAT IT READS IS OF BULK AT MOST 1048576: true; the input reads as it did. -/
def tellCanUptoRow : OpenClaim := { program := "yteiaohbhlapklaagreatdoor", sum := "89e2f11c583db655d5b4cd43d005618f15a9a67a725dcc13cf3a7db1cc14c1e2", func := "drachm/drachmlaw13.TellCan", spec := "tellCan", inPlace := ["internal/bytealg.IndexByteString"], unfollowed := true, recurses := true, named := ["drachm/style.styles", "strconv.ErrSyntax", "strconv.ErrRange", "internal/strconv.uint64pow10", "math/bits.deBruijn32tab", "math/bits.deBruijn64tab", "drachm/atoms.prefixes"], apart := false, laid := [("math/bits.deBruijn32tab", laid_math_bits_deBruijn32tab), ("math/bits.deBruijn64tab", laid_math_bits_deBruijn64tab), ("internal/strconv.uint64pow10", laid_internal_strconv_uint64pow10), ("strconv.ErrRange", laid_strconv_ErrRange), ("strconv.ErrSyntax", laid_strconv_ErrSyntax), ("drachm/atoms.prefixes", laid_drachm_atoms_prefixes), ("drachm/style.styles", laid_drachm_style_styles)], narrowed := true }
def TellCanUptoSaid : Prop := tellCanUptoRow.holds Tryz.pinned (OpenSpec.upto tellCanSpec)

/-- 'drachmlaw13.TellOwn', WHERE WHAT IT READS IS OF BULK AT MOST 1048576: true; the input reads as it did. -/
def tellOwnUptoRow : OpenClaim := { program := "yteiaohbhlapklaagreatdoor", sum := "89e2f11c583db655d5b4cd43d005618f15a9a67a725dcc13cf3a7db1cc14c1e2", func := "drachm/drachmlaw13.TellOwn", spec := "tellOwn", inPlace := ["internal/bytealg.IndexByteString"], unfollowed := true, recurses := true, named := ["drachm/style.styles", "strconv.ErrSyntax", "strconv.ErrRange", "internal/strconv.uint64pow10", "math/bits.deBruijn32tab", "math/bits.deBruijn64tab", "drachm/atoms.prefixes"], apart := false, laid := [("math/bits.deBruijn32tab", laid_math_bits_deBruijn32tab), ("math/bits.deBruijn64tab", laid_math_bits_deBruijn64tab), ("internal/strconv.uint64pow10", laid_internal_strconv_uint64pow10), ("strconv.ErrRange", laid_strconv_ErrRange), ("strconv.ErrSyntax", laid_strconv_ErrSyntax), ("drachm/atoms.prefixes", laid_drachm_atoms_prefixes), ("drachm/style.styles", laid_drachm_style_styles)], narrowed := true }
def TellOwnUptoSaid : Prop := tellOwnUptoRow.holds Tryz.pinned (OpenSpec.upto tellOwnSpec)

end Rows
end Go.Proofs.YteiaohbhlapklaaGreatDoor
