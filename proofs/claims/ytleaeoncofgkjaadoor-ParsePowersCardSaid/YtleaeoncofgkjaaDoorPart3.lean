/- Part 3 of the proof: functions of the program in the evaluator's code. Conditions: none; definitions and theorems that the statement's proof uses. -/
import Derived.Test.YtleaeoncofgkjaaDoorPart2
/- Functions of the program in the evaluator's code, by program. Conditions: none; definitions. -/
namespace Go.Pv
abbrev q3 : List Bool := [Z,Z,Z,Z,Z,Z,X,Z,Z,Z,Z,Z,Z,Z,Z,Z,Z,Z,Z,Z,Z,Z,Z,Z,Z,Z,Z,Z,Z,Z,Z,Z,Z,Z,Z,Z,Z,Z]
def r3 (t6 : AV) : Fr := ⟨[J,J,J,J,J,J,t6,J,J,J,J,J,J,J,J,J,J,J,J,J,J,J,J,J,J,J,J,J,J,J,J,J,J,J,J,J,J,J], [], .call⟩
/-- drachm/drachmlaw18.LegalTells -/
def f3 : SFunc := ⟨.closed, 38, [(.tmp 6)],
  (.seq (.region false [
    .o 6 (.mov (.b false))])
  (.seq (.region false [
    .o 8 (.call (.f 8) []),
    .m 7 8])
  (.seq (.seq (.region false [
    .m 9 1,
    .o 10 (.len .str (.t 9)),
    .o 11 (.bin .gtr .none (.t 10) (.i 16))])
  (.cond (.t 11)
  (.region false [
    .m 12 1,
    .o 13 (.sliceStr (.t 12) none (some (.i 16))),
    .m 1 13])
  .skip))
  (.seq (.region false [
    .m 14 7,
    .m 15 14,
    .gm 16 15 true 0,
    .gm 17 15 true 1,
    .gm 18 15 true 2,
    .g 19 15 true (.call (.f 9) [(.t 16), (.t 17), (.t 18)]),
    .o 20 (.pick (.t 15) (.t 19) (.b false)),
    .m 21 20,
    .gm 22 21 true 0,
    .g 23 21 true (.call (.f 10) [(.t 22), (.i 8)]),
    .g 24 21 true (.bin .sub .none (.t 23) (.i 1)),
    .gm 25 21 true 1,
    .gm 26 21 true 2,
    .g 27 21 true (.call (.f 9) [(.t 24), (.t 25), (.t 26)]),
    .o 28 (.pick (.t 21) (.t 27) (.b false)),
    .m 29 28,
    .gm 30 29 true 0,
    .g 31 29 true (.call (.f 10) [(.t 30), (.i 8)]),
    .g 32 29 true (.bin .sub .none (.t 31) (.i 1)),
    .gm 33 29 true 1,
    .gm 34 29 true 2,
    .g 35 29 true (.call (.f 10) [(.t 34), (.i 900)]),
    .g 36 29 true (.call (.f 9) [(.t 32), (.t 33), (.t 35)]),
    .o 37 (.pick (.t 29) (.t 36) (.b false)),
    .m 6 37])
  (.ret q3)))))⟩
abbrev q4 : List Bool := [Z,Z,Z,Z,Z,Z,X,Z,Z,Z,Z,Z,Z,Z,Z,Z,Z,Z,Z,Z,Z,Z,Z,Z,Z,Z,Z,Z,Z,Z,Z,Z,Z,Z,Z,Z,Z,Z,Z,Z,Z,Z,Z,Z,Z,Z,Z,Z,Z,Z,Z,Z,Z,Z,Z,Z,Z,Z,Z,Z,Z,Z,Z,Z,Z,Z,Z,Z,Z,Z,Z,Z,Z,Z,Z,Z,Z,Z,Z,Z,Z,Z,Z,Z,Z,Z,Z,Z,Z,Z,Z,Z,Z,Z,Z,Z,Z,Z,Z,Z,Z,Z,Z,Z,Z,Z,Z,Z,Z,Z]
def r4 (t6 : AV) : Fr := ⟨[J,J,J,J,J,J,t6,J,J,J,J,J,J,J,J,J,J,J,J,J,J,J,J,J,J,J,J,J,J,J,J,J,J,J,J,J,J,J,J,J,J,J,J,J,J,J,J,J,J,J,J,J,J,J,J,J,J,J,J,J,J,J,J,J,J,J,J,J,J,J,J,J,J,J,J,J,J,J,J,J,J,J,J,J,J,J,J,J,J,J,J,J,J,J,J,J,J,J,J,J,J,J,J,J,J,J,J,J,J,J], [], .call⟩
/-- drachm/drachmlaw18.LegalRanks -/
def f4 : SFunc := ⟨.closed, 110, [(.tmp 6)],
  (.seq (.region false [
    .o 5 (.box 2 (.t 2)),
    .o 6 (.mov (.b false))])
  (.seq (.region false [
    .o 21 (.call (.f 8) []),
    .m 7 21])
  (.seq (.region false [
    .m 22 0,
    .o 23 (.call (.f 10) [(.t 22), (.i 5)]),
    .o 24 (.bin .add .none (.i 1) (.t 23)),
    .m 8 24])
  (.seq (.seq (.region false [
    .m 25 1,
    .o 26 (.len .str (.t 25)),
    .o 27 (.bin .gtr .none (.t 26) (.i 16))])
  (.cond (.t 27)
  (.region false [
    .m 28 1,
    .o 29 (.sliceStr (.t 28) none (some (.i 16))),
    .m 1 29])
  .skip))
  (.seq (.region false [
    .m 30 8,
    .o 31 (.call (.f 11) [(.t 30)]),
    .o 32 (.len .slc (.t 31)),
    .m 9 32])
  (.seq (.seq (.region false [
    .m 33 9,
    .o 34 (.bin .lss .none (.t 33) (.i 300))])
  (.cond (.t 34)
  (.seq (.region false [
    .o 6 (.mov (.b false))])
  (.ret q4))
  .skip))
  (.seq (.region false [
    .m 36 8,
    .m 37 1,
    .o 38 (.call (.f 12) [(.t 36), (.t 37)]),
    .m 35 38,
    .o 39 (.extract 0 (.t 35)),
    .o 40 (.extract 1 (.t 35)),
    .m 10 39,
    .m 11 40])
  (.seq (.region false [
    .m 42 8,
    .m 43 1,
    .o 44 (.call (.f 13) [(.t 42), (.t 43)]),
    .m 41 44,
    .o 45 (.extract 0 (.t 41)),
    .o 46 (.extract 1 (.t 41)),
    .o 47 (.extract 2 (.t 41)),
    .m 12 45,
    .m 13 46,
    .m 14 47])
  (.seq (.region false [
    .m 49 8,
    .o 50 (.indexAddrArr 2 1 (.t 5) (.i 0)),
    .o 51 (.load false 1 (.t 50)),
    .m 52 9,
    .o 53 (.call (.f 10) [(.t 51), (.t 52)]),
    .o 54 (.call (.f 14) [(.t 49), (.t 53)]),
    .m 48 54,
    .o 55 (.extract 0 (.t 48)),
    .o 56 (.extract 1 (.t 48)),
    .m 15 55,
    .m 16 56])
  (.seq (.region false [
    .m 58 8,
    .o 59 (.indexAddrArr 2 1 (.t 5) (.i 1)),
    .o 60 (.load false 1 (.t 59)),
    .m 61 9,
    .o 62 (.call (.f 10) [(.t 60), (.t 61)]),
    .o 63 (.call (.f 14) [(.t 58), (.t 62)]),
    .m 57 63,
    .o 64 (.extract 0 (.t 57)),
    .o 65 (.extract 1 (.t 57)),
    .m 17 64,
    .m 18 65])
  (.seq (.region false [
    .m 67 8,
    .m 68 15,
    .o 69 (.call (.f 12) [(.t 67), (.t 68)]),
    .m 66 69,
    .o 70 (.extract 0 (.t 66)),
    .o 71 (.extract 1 (.t 66)),
    .m 19 70,
    .m 20 71])
  (.seq (.region true [
    .m 72 7,
    .m 73 72,
    .gm 74 73 true 11,
    .gm 75 73 true 14,
    .g 76 73 true (.bin .eql .bool (.t 74) (.t 75)),
    .o 77 (.pick (.t 73) (.t 76) (.b false)),
    .m 78 77,
    .gm 79 78 true 16,
    .o 80 (.pick (.t 78) (.t 79) (.b false)),
    .m 81 80,
    .gm 82 81 true 18,
    .o 83 (.pick (.t 81) (.t 82) (.b false)),
    .m 84 83,
    .gm 85 84 true 15,
    .gm 86 84 true 17,
    .g 87 84 true (.bin .eql .none (.t 85) (.t 86)),
    .g 88 84 true (.indexAddrArr 2 1 (.t 5) (.i 0)),
    .g 89 84 true (.load false 1 (.t 88)),
    .gm 90 84 true 9,
    .g 91 84 true (.call (.f 10) [(.t 89), (.t 90)]),
    .g 92 84 true (.indexAddrArr 2 1 (.t 5) (.i 1)),
    .g 93 84 true (.load false 1 (.t 92)),
    .gm 94 84 true 9,
    .g 95 84 true (.call (.f 10) [(.t 93), (.t 94)]),
    .g 96 84 true (.bin .eql .none (.t 91) (.t 95)),
    .g 97 84 true (.bin .eql .bool (.t 87) (.t 96)),
    .o 98 (.pick (.t 84) (.t 97) (.b false)),
    .m 99 98,
    .gm 100 99 true 20,
    .o 101 (.pick (.t 99) (.t 100) (.b false)),
    .m 102 101,
    .gm 103 102 true 19,
    .g 104 102 true (.indexAddrArr 2 1 (.t 5) (.i 0)),
    .g 105 102 true (.load false 1 (.t 104)),
    .gm 106 102 true 9,
    .g 107 102 true (.call (.f 10) [(.t 105), (.t 106)]),
    .g 108 102 true (.bin .eql .none (.t 103) (.t 107)),
    .o 109 (.pick (.t 102) (.t 108) (.b false)),
    .m 6 109])
  (.ret q4)))))))))))))⟩
abbrev q5 : List Bool := [Z,Z,Z,Z,Z,Z,X,Z,Z,Z,Z,Z,Z,Z,Z,Z,Z,Z,Z,Z,Z,Z,Z,Z,Z,Z,Z,Z,Z,Z,Z,Z,Z,Z,Z,Z,Z,Z,Z,Z,Z,Z,Z,Z,Z,Z,Z,Z,Z,Z,Z,Z,Z,Z,Z,Z,Z,Z,Z,Z,Z,Z,Z,Z,Z,Z,Z,Z,Z,Z,Z,Z,Z,Z,Z,Z,Z,Z,Z,Z,Z,Z,Z,Z,Z,Z,Z,Z,Z,Z,Z,Z,Z,Z,Z,Z,Z,Z,Z,Z,Z,Z,Z,Z,Z,Z,Z,Z,Z,Z,Z,Z,Z]
def r5 (t6 : AV) : Fr := ⟨[J,J,J,J,J,J,t6,J,J,J,J,J,J,J,J,J,J,J,J,J,J,J,J,J,J,J,J,J,J,J,J,J,J,J,J,J,J,J,J,J,J,J,J,J,J,J,J,J,J,J,J,J,J,J,J,J,J,J,J,J,J,J,J,J,J,J,J,J,J,J,J,J,J,J,J,J,J,J,J,J,J,J,J,J,J,J,J,J,J,J,J,J,J,J,J,J,J,J,J,J,J,J,J,J,J,J,J,J,J,J,J,J,J], [], .call⟩
/-- drachm/drachmlaw18.LegalTries -/
def f5 : SFunc := ⟨.closed, 113, [(.tmp 6)],
  (.seq (.region false [
    .o 6 (.mov (.b false))])
  (.seq (.region false [
    .o 19 (.call (.f 8) []),
    .m 7 19])
  (.seq (.seq (.region false [
    .m 20 1,
    .o 21 (.len .str (.t 20)),
    .o 22 (.bin .gtr .none (.t 21) (.i 16))])
  (.cond (.t 22)
  (.region false [
    .m 23 1,
    .o 24 (.sliceStr (.t 23) none (some (.i 16))),
    .m 1 24])
  .skip))
  (.seq (.region false [
    .m 25 0,
    .o 26 (.call (.f 10) [(.t 25), (.i 8)]),
    .o 27 (.bin .sub .none (.t 26) (.i 1)),
    .m 8 27])
  (.seq (.region false [
    .m 28 8,
    .o 29 (.call (.f 15) [(.t 28)]),
    .m 9 29])
  (.seq (.seq (.region false [
    .m 30 8,
    .o 31 (.bin .lss .none (.t 30) (.i 1)),
    .m 32 31,
    .gm 33 32 false 8,
    .g 34 32 false (.bin .gtr .none (.t 33) (.i 5)),
    .o 35 (.pick (.t 32) (.b true) (.t 34))])
  (.cond (.t 35)
  (.seq (.region false [
    .m 36 7,
    .m 37 36,
    .gm 38 37 true 9,
    .g 39 37 true (.bin .eql .ptr (.t 38) (.const .nilp)),
    .o 40 (.pick (.t 37) (.t 39) (.b false)),
    .m 41 40,
    .gm 42 41 true 0,
    .g 43 41 true (.bin .geq .none (.t 42) (.i 1)),
    .gm 44 41 true 43,
    .gm 45 44 true 0,
    .g 46 44 true (.bin .leq .none (.t 45) (.i 5)),
    .g 47 41 true (.pick (.t 44) (.t 46) (.b false)),
    .gm 48 41 true 47,
    .gm 49 48 false 0,
    .g 50 48 false (.call (.f 15) [(.t 49)]),
    .g 51 48 false (.bin .eql .ptr (.t 50) (.const .nilp)),
    .g 52 41 true (.pick (.t 48) (.b true) (.t 51)),
    .o 53 (.pick (.t 41) (.t 52) (.b false)),
    .m 6 53])
  (.ret q5))
  .skip))
  (.seq (.region false [
    .m 54 8,
    .o 55 (.call (.f 11) [(.t 54)]),
    .o 56 (.len .slc (.t 55)),
    .m 10 56])
  (.seq (.seq (.region false [
    .m 57 9,
    .o 58 (.bin .eql .ptr (.t 57) (.const .nilp)),
    .m 59 58,
    .gm 60 59 false 10,
    .g 61 59 false (.bin .eql .none (.t 60) (.i 0)),
    .o 62 (.pick (.t 59) (.b true) (.t 61))])
  (.cond (.t 62)
  (.seq (.region false [
    .o 6 (.mov (.b false))])
  (.ret q5))
  .skip))
  (.seq (.region false [
    .m 64 8,
    .m 65 2,
    .m 66 10,
    .o 67 (.call (.f 10) [(.t 65), (.t 66)]),
    .o 68 (.call (.f 14) [(.t 64), (.t 67)]),
    .m 63 68,
    .o 69 (.extract 0 (.t 63)),
    .o 70 (.extract 1 (.t 63)),
    .m 11 69,
    .m 12 70])
  (.seq (.region false [
    .m 72 9,
    .m 73 11,
    .o 74 (.call (.f 16) [(.t 72), (.t 73)]),
    .m 71 74,
    .o 75 (.extract 0 (.t 71)),
    .o 76 (.extract 1 (.t 71)),
    .m 13 75,
    .m 14 76])
  (.seq (.region false [
    .m 78 9,
    .m 79 1,
    .o 80 (.call (.f 16) [(.t 78), (.t 79)]),
    .m 77 80,
    .o 81 (.extract 0 (.t 77)),
    .o 82 (.extract 1 (.t 77)),
    .m 15 81,
    .m 16 82])
  (.seq (.region false [
    .m 84 8,
    .m 85 1,
    .o 86 (.call (.f 12) [(.t 84), (.t 85)]),
    .m 83 86,
    .o 87 (.extract 0 (.t 83)),
    .o 88 (.extract 1 (.t 83)),
    .m 17 87,
    .m 18 88])
  (.seq (.region false [
    .m 89 7,
    .m 90 89,
    .gm 91 90 true 12,
    .o 92 (.pick (.t 90) (.t 91) (.b false)),
    .m 93 92,
    .gm 94 93 true 14,
    .o 95 (.pick (.t 93) (.t 94) (.b false)),
    .m 96 95,
    .gm 97 96 true 13,
    .gm 98 96 true 2,
    .gm 99 96 true 10,
    .g 100 96 true (.call (.f 10) [(.t 98), (.t 99)]),
    .g 101 96 true (.bin .eql .none (.t 97) (.t 100)),
    .o 102 (.pick (.t 96) (.t 101) (.b false)),
    .m 103 102,
    .gm 104 103 true 16,
    .gm 105 103 true 18,
    .g 106 103 true (.bin .eql .bool (.t 104) (.t 105)),
    .o 107 (.pick (.t 103) (.t 106) (.b false)),
    .m 108 107,
    .gm 109 108 true 15,
    .gm 110 108 true 17,
    .g 111 108 true (.bin .eql .none (.t 109) (.t 110)),
    .o 112 (.pick (.t 108) (.t 111) (.b false)),
    .m 6 112])
  (.ret q5))))))))))))))⟩
abbrev q6 : List Bool := [Z,Z,Z,Z,Z,Z,X,Z,Z,Z,Z,Z,Z,Z,Z,Z,Z,Z,Z,Z,Z,Z,Z,Z,Z,Z,Z,Z,Z,Z,Z,Z,Z,Z,Z,Z,Z,Z,Z,Z,Z,Z,Z,Z,Z,Z,Z,Z,Z,Z,Z,Z,Z,Z,Z,Z,Z,Z,Z,Z,Z,Z,Z,Z,Z,Z,Z,Z,Z,Z,Z,Z,Z,Z,Z,Z,Z,Z,Z,Z,Z,Z,Z,Z,Z,Z,Z,Z,Z,Z,Z,Z,Z,Z,Z,Z,Z,Z,Z,Z,Z,Z,Z,Z,Z,Z,Z,Z,Z,Z,Z,Z,Z,Z,Z,Z,Z,Z,Z,Z,Z,Z,Z,Z,Z,Z,Z,Z]
def r6 (t6 : AV) : Fr := ⟨[J,J,J,J,J,J,t6,J,J,J,J,J,J,J,J,J,J,J,J,J,J,J,J,J,J,J,J,J,J,J,J,J,J,J,J,J,J,J,J,J,J,J,J,J,J,J,J,J,J,J,J,J,J,J,J,J,J,J,J,J,J,J,J,J,J,J,J,J,J,J,J,J,J,J,J,J,J,J,J,J,J,J,J,J,J,J,J,J,J,J,J,J,J,J,J,J,J,J,J,J,J,J,J,J,J,J,J,J,J,J,J,J,J,J,J,J,J,J,J,J,J,J,J,J,J,J,J,J], [], .call⟩
/-- drachm/drachmlaw11.ParsePowers -/
def f6 : SFunc := ⟨.closed, 128, [(.tmp 6)],
  (.seq (.region false [
    .o 5 (.box 2 (.t 2)),
    .o 6 (.mov (.b false))])
  (.seq (.region false [
    .o 20 (.call (.f 17) []),
    .m 7 20])
  (.seq (.region false [
    .m 21 0,
    .o 22 (.call (.f 18) [(.t 21), (.i 5)]),
    .o 23 (.bin .add .none (.i 1) (.t 22)),
    .m 8 23])
  (.seq (.region false [
    .m 24 1,
    .o 25 (.call (.f 18) [(.t 24), (.i 201)]),
    .m 9 25])
  (.seq (.region false [
    .o 26 (.build [(.str []), (.str []), (.str [])] [(0, 1, (.s [])), (1, 1, (.s [43])), (2, 1, (.s [45]))]),
    .o 27 (.indexAddrArr 2 1 (.t 5) (.i 0)),
    .o 28 (.load false 1 (.t 27)),
    .o 29 (.call (.f 18) [(.t 28), (.i 3)]),
    .o 30 (.indexArr 3 false 1 (.t 26) (.t 29)),
    .m 10 30])
  (.seq (.region true [
    .o 31 (.indexAddrArr 2 1 (.t 5) (.i 1)),
    .o 32 (.load false 1 (.t 31)),
    .o 33 (.call (.f 18) [(.t 32), (.i 4)]),
    .o 34 (.sliceStr (.s [48, 48, 48]) none (some (.t 33))),
    .m 35 9,
    .o 36 (.bin .quo .none (.t 35) (.i 100)),
    .o 37 (.bin .add .none (.i 48) (.t 36)),
    .o 38 (.conv (.int .u8) (.t 37)),
    .m 39 9,
    .o 40 (.bin .quo .none (.t 39) (.i 10)),
    .o 41 (.bin .rem .none (.t 40) (.i 10)),
    .o 42 (.bin .add .none (.i 48) (.t 41)),
    .o 43 (.conv (.int .u8) (.t 42)),
    .m 44 9,
    .o 45 (.bin .rem .none (.t 44) (.i 10)),
    .o 46 (.bin .add .none (.i 48) (.t 45)),
    .o 47 (.conv (.int .u8) (.t 46)),
    .o 48 (.buildSlice 3 [(.int .u8 0), (.int .u8 0), (.int .u8 0)] [(0, 1, (.t 38)), (1, 1, (.t 43)), (2, 1, (.t 47))]),
    .o 49 (.conv .toStr (.t 48)),
    .o 50 (.bin .add .none (.t 34) (.t 49)),
    .m 11 50])
  (.seq (.region false [
    .m 51 8,
    .o 52 (.call (.f 19) [(.t 51)]),
    .o 53 (.field false 3 1 (.t 52)),
    .m 12 53])
  (.seq (.region false [
    .m 54 8,
    .m 55 10,
    .o 56 (.bin .add .none (.s [109, 94]) (.t 55)),
    .m 57 11,
    .o 58 (.bin .add .none (.t 56) (.t 57)),
    .o 59 (.call (.f 20) [(.t 54), (.t 58)]),
    .o 13 (.alloc [.nils, (.int .i64 0), (.int .i64 0), (.int .i64 0)]),
    .n (.store 4 (.t 13) (.t 59))])
  (.seq (.region false [
    .m 60 8,
    .m 61 10,
    .o 62 (.bin .add .none (.s [109]) (.t 61)),
    .m 63 11,
    .o 64 (.bin .add .none (.t 62) (.t 63)),
    .o 65 (.call (.f 20) [(.t 60), (.t 64)]),
    .o 14 (.alloc [.nils, (.int .i64 0), (.int .i64 0), (.int .i64 0)]),
    .n (.store 4 (.t 14) (.t 65))])
  (.seq (.region false [
    .m 66 8,
    .o 67 (.call (.f 20) [(.t 66), (.s [109])]),
    .o 15 (.alloc [.nils, (.int .i64 0), (.int .i64 0), (.int .i64 0)]),
    .n (.store 4 (.t 15) (.t 67))])
  (.seq (.region false [
    .o 68 (.load true 4 (.t 14)),
    .o 16 (.alloc [.nils, (.int .i64 0), (.int .i64 0), (.int .i64 0)]),
    .n (.store 4 (.t 16) (.t 68))])
  (.seq (.region false [
    .o 69 (.load true 4 (.t 13)),
    .o 17 (.alloc [.nils, (.int .i64 0), (.int .i64 0), (.int .i64 0)]),
    .n (.store 4 (.t 17) (.t 69))])
  (.seq (.region false [
    .o 18 (.mov (.i 1))])
  (.seq (.seq (.region false [
    .m 70 12,
    .o 71 (.bin .neq .none (.t 70) (.const (.int .u8 0)))])
  (.cond (.t 71)
  (.seq (.region false [
    .o 72 (.load true 4 (.t 13)),
    .n (.store 4 (.t 16) (.t 72))])
  (.seq (.region false [
    .o 73 (.load true 4 (.t 14)),
    .n (.store 4 (.t 17) (.t 73))])
  (.region false [
    .o 18 (.mov (.i 2))])))
  .skip))
  (.seq (.seq (.region false [
    .o 74 (.fieldAddr 1 (.t 17)),
    .o 75 (.load false 1 (.t 74)),
    .o 76 (.bin .neq .none (.t 75) (.i 14)),
    .m 77 76,
    .g 78 77 false (.fieldAddr 2 (.t 17)),
    .g 79 77 false (.load false 1 (.t 78)),
    .g 80 77 false (.bin .neq .none (.t 79) (.i 1)),
    .o 81 (.pick (.t 77) (.b true) (.t 80))])
  (.cond (.t 81)
  (.seq (.region false [
    .o 6 (.mov (.b false))])
  (.ret q6))
  .skip))
  (.seq (.seq (.region false [
    .m 82 9,
    .o 83 (.bin .gtr .none (.t 82) (.i 99))])
  (.cond (.t 83)
  (.seq (.region false [
    .m 84 7,
    .m 85 84,
    .g 86 85 true (.fieldAddr 1 (.t 16)),
    .g 87 85 true (.load false 1 (.t 86)),
    .g 88 85 true (.bin .eql .none (.t 87) (.i 14)),
    .o 89 (.pick (.t 85) (.t 88) (.b false)),
    .m 90 89,
    .g 91 90 true (.fieldAddr 2 (.t 16)),
    .g 92 90 true (.load false 1 (.t 91)),
    .gm 93 90 true 18,
    .gm 94 90 true 10,
    .g 95 90 true (.len .str (.t 94)),
    .g 96 90 true (.bin .add .none (.t 93) (.t 95)),
    .g 97 90 true (.bin .eql .none (.t 92) (.t 96)),
    .o 98 (.pick (.t 90) (.t 97) (.b false)),
    .m 6 98])
  (.ret q6))
  .skip))
  (.seq (.seq (.region false [
    .o 99 (.fieldAddr 1 (.t 15)),
    .o 100 (.load false 1 (.t 99)),
    .o 101 (.bin .neq .none (.t 100) (.i 0))])
  (.cond (.t 101)
  (.seq (.region false [
    .o 6 (.mov (.b false))])
  (.ret q6))
  .skip))
  (.seq (.region false [
    .m 102 9,
    .m 19 102])
  (.seq (.seq (.region false [
    .m 103 10,
    .o 104 (.bin .eql .none (.t 103) (.s [45]))])
  (.cond (.t 104)
  (.region false [
    .m 105 9,
    .o 106 (.bin .sub .none (.i 0) (.t 105)),
    .m 19 106])
  .skip))
  (.seq (.region false [
    .m 107 7,
    .m 108 107,
    .g 109 108 true (.fieldAddr 1 (.t 16)),
    .g 110 108 true (.load false 1 (.t 109)),
    .g 111 108 true (.bin .eql .none (.t 110) (.i 0)),
    .o 112 (.pick (.t 108) (.t 111) (.b false)),
    .m 113 112,
    .g 114 113 true (.fieldAddr 0 (.t 16)),
    .g 115 113 true (.load false 1 (.t 114)),
    .g 116 113 true (.len .slc (.t 115)),
    .g 117 113 true (.bin .eql .none (.t 116) (.i 1)),
    .o 118 (.pick (.t 113) (.t 117) (.b false)),
    .m 119 118,
    .g 120 119 true (.fieldAddr 0 (.t 16)),
    .g 121 119 true (.load false 1 (.t 120)),
    .g 122 119 true (.indexAddrVs 6 (.t 121) (.i 0)),
    .g 123 119 true (.fieldAddr 3 (.t 122)),
    .g 124 119 true (.load false 1 (.t 123)),
    .gm 125 119 true 19,
    .g 126 119 true (.bin .eql .none (.t 124) (.t 125)),
    .o 127 (.pick (.t 119) (.t 126) (.b false)),
    .m 6 127])
  (.ret q6)))))))))))))))))))))⟩
abbrev q7 : List Bool := [Z,Z,Z,Z,X,Z,Z,Z,Z,Z,Z,Z,Z,Z,Z,Z,Z,Z,Z,Z,Z,Z,Z,Z,Z,Z,Z,Z,Z,Z,Z,Z,Z,Z,Z,Z,Z,Z,Z,Z,Z,Z,Z,Z,Z,Z,Z,Z,Z,Z,Z,Z,Z,Z,Z,Z,Z,Z,Z,Z,Z,Z,Z,Z,Z,Z,Z,Z,Z,Z,Z,Z,Z,Z,Z,Z,Z,Z,Z,Z,Z,Z,Z,Z,Z,Z,Z,Z,Z,Z,Z,Z,Z]
def r7 (t4 : AV) : Fr := ⟨[J,J,J,J,t4,J,J,J,J,J,J,J,J,J,J,J,J,J,J,J,J,J,J,J,J,J,J,J,J,J,J,J,J,J,J,J,J,J,J,J,J,J,J,J,J,J,J,J,J,J,J,J,J,J,J,J,J,J,J,J,J,J,J,J,J,J,J,J,J,J,J,J,J,J,J,J,J,J,J,J,J,J,J,J,J,J,J,J,J,J,J,J,J], [], .call⟩
/-- drachm/drachmlaw18.LegalParses -/
def f7 : SFunc := ⟨.closed, 93, [(.tmp 4)],
  (.seq (.region false [
    .o 4 (.mov (.b false))])
  (.seq (.region false [
    .o 14 (.call (.f 8) []),
    .m 5 14])
  (.seq (.region false [
    .m 15 0,
    .o 16 (.call (.f 10) [(.t 15), (.i 5)]),
    .o 17 (.bin .add .none (.i 1) (.t 16)),
    .m 6 17])
  (.seq (.region false [
    .m 18 6,
    .o 19 (.call (.f 11) [(.t 18)]),
    .o 20 (.len .slc (.t 19)),
    .m 7 20])
  (.seq (.seq (.region false [
    .m 21 7,
    .o 22 (.bin .eql .none (.t 21) (.i 0))])
  (.cond (.t 22)
  (.seq (.region false [
    .o 4 (.mov (.b false))])
  (.ret q7))
  .skip))
  (.seq (.region false [
    .m 24 6,
    .m 25 1,
    .m 26 7,
    .o 27 (.call (.f 10) [(.t 25), (.t 26)]),
    .o 28 (.call (.f 14) [(.t 24), (.t 27)]),
    .m 23 28,
    .o 29 (.extract 0 (.t 23)),
    .o 30 (.extract 1 (.t 23)),
    .m 8 29,
    .m 9 30])
  (.seq (.region false [
    .m 31 6,
    .m 32 8,
    .o 33 (.call (.f 20) [(.t 31), (.t 32)]),
    .o 10 (.alloc [.nils, (.int .i64 0), (.int .i64 0), (.int .i64 0)]),
    .n (.store 4 (.t 10) (.t 33))])
  (.seq (.region false [
    .m 35 6,
    .m 36 8,
    .o 37 (.call (.f 13) [(.t 35), (.t 36)]),
    .m 34 37,
    .o 38 (.extract 0 (.t 34)),
    .o 39 (.extract 1 (.t 34)),
    .o 40 (.extract 2 (.t 34)),
    .m 11 38,
    .m 12 39,
    .m 13 40])
  (.seq (.region false [
    .m 41 5,
    .m 42 41,
    .gm 43 42 true 9,
    .o 44 (.pick (.t 42) (.t 43) (.b false)),
    .m 45 44,
    .gm 46 45 true 13,
    .o 47 (.pick (.t 45) (.t 46) (.b false)),
    .m 48 47,
    .g 49 48 true (.fieldAddr 1 (.t 10)),
    .g 50 48 true (.load false 1 (.t 49)),
    .g 51 48 true (.bin .eql .none (.t 50) (.i 0)),
    .o 52 (.pick (.t 48) (.t 51) (.b false)),
    .m 53 52,
    .g 54 53 true (.fieldAddr 0 (.t 10)),
    .g 55 53 true (.load false 1 (.t 54)),
    .g 56 53 true (.len .slc (.t 55)),
    .g 57 53 true (.bin .eql .none (.t 56) (.i 1)),
    .o 58 (.pick (.t 53) (.t 57) (.b false)),
    .m 59 58,
    .g 60 59 true (.fieldAddr 0 (.t 10)),
    .g 61 59 true (.load false 1 (.t 60)),
    .g 62 59 true (.indexAddrVs 6 (.t 61) (.i 0)),
    .g 63 59 true (.fieldAddr 0 (.t 62)),
    .g 64 59 true (.load false 1 (.t 63)),
    .g 65 59 true (.bin .eql .none (.t 64) (.i 2)),
    .o 66 (.pick (.t 59) (.t 65) (.b false)),
    .m 67 66,
    .g 68 67 true (.fieldAddr 0 (.t 10)),
    .g 69 67 true (.load false 1 (.t 68)),
    .g 70 67 true (.indexAddrVs 6 (.t 69) (.i 0)),
    .g 71 67 true (.fieldAddr 1 (.t 70)),
    .g 72 67 true (.load false 1 (.t 71)),
    .gm 73 67 true 11,
    .g 74 67 true (.bin .eql .none (.t 72) (.t 73)),
    .o 75 (.pick (.t 67) (.t 74) (.b false)),
    .m 76 75,
    .g 77 76 true (.fieldAddr 0 (.t 10)),
    .g 78 76 true (.load false 1 (.t 77)),
    .g 79 76 true (.indexAddrVs 6 (.t 78) (.i 0)),
    .g 80 76 true (.fieldAddr 2 (.t 79)),
    .g 81 76 true (.load false 1 (.t 80)),
    .gm 82 76 true 12,
    .g 83 76 true (.bin .eql .none (.t 81) (.t 82)),
    .o 84 (.pick (.t 76) (.t 83) (.b false)),
    .m 85 84,
    .g 86 85 true (.fieldAddr 0 (.t 10)),
    .g 87 85 true (.load false 1 (.t 86)),
    .g 88 85 true (.indexAddrVs 6 (.t 87) (.i 0)),
    .g 89 85 true (.fieldAddr 3 (.t 88)),
    .g 90 85 true (.load false 1 (.t 89)),
    .g 91 85 true (.bin .eql .none (.t 90) (.i 1)),
    .o 92 (.pick (.t 85) (.t 91) (.b false)),
    .m 4 92])
  (.ret q7))))))))))⟩
abbrev q8 : List Bool := [X,Z,Z,Z,Z,Z,Z,Z,Z,Z,Z,Z,Z,Z,Z,Z,Z,Z,Z,Z,Z,Z,Z,Z,Z,Z,Z,Z,Z,Z]
def r8 (t0 : AV) : Fr := ⟨[t0,J,J,J,J,J,J,J,J,J,J,J,J,J,J,J,J,J,J,J,J,J,J,J,J,J,J,J,J,J], [], .call⟩
/-- drachm/drachmlaw18.awake -/
def f8 : SFunc := ⟨.closed, 30, [(.tmp 0)],
  (.seq (.region false [
    .o 0 (.mov (.b false))])
  (.seq (.region false [
    .o 6 (.call (.f 12) [(.i 1), (.s [109])]),
    .m 5 6,
    .o 7 (.extract 0 (.t 5)),
    .o 8 (.extract 1 (.t 5)),
    .m 1 7,
    .m 2 8])
  (.seq (.region false [
    .o 10 (.call (.f 12) [(.i 1), (.s [109, 109])]),
    .m 9 10,
    .o 11 (.extract 0 (.t 9)),
    .o 12 (.extract 1 (.t 9)),
    .m 3 11,
    .m 4 12])
  (.seq (.region false [
    .m 13 1,
    .o 14 (.bin .eql .none (.t 13) (.i 0)),
    .m 15 14,
    .gm 16 15 true 2,
    .o 17 (.pick (.t 15) (.t 16) (.b false)),
    .m 18 17,
    .gm 19 18 true 3,
    .g 20 18 true (.bin .gtr .none (.t 19) (.i 0)),
    .o 21 (.pick (.t 18) (.t 20) (.b false)),
    .m 22 21,
    .gm 23 22 true 4,
    .o 24 (.pick (.t 22) (.t 23) (.b false)),
    .m 25 24,
    .g 26 25 true (.call (.f 11) [(.i 9)]),
    .g 27 25 true (.len .slc (.t 26)),
    .g 28 25 true (.bin .eql .none (.t 27) (.i 0)),
    .o 29 (.pick (.t 25) (.t 28) (.b false)),
    .m 0 29])
  (.ret q8)))))⟩
abbrev q9 : List Bool := [Z,Z,Z,Z,Z,Z,X,Z,Z,Z,Z,Z,Z,Z,Z,Z,Z,Z,Z,Z,Z,Z,Z,Z,Z,Z,Z,Z,Z,Z,Z,Z,Z,Z,Z,Z,Z,Z,Z,Z,Z,Z,Z,Z,Z,Z,Z,Z,Z,Z,Z,Z,Z,Z,Z,Z,Z,Z,Z,Z,Z,Z,Z,Z,Z,Z,Z,Z,Z,Z,Z,Z,Z,Z,Z,Z,Z,Z,Z,Z,Z,Z,Z,Z,Z,Z,Z,Z,Z,Z,Z,Z,Z,Z,Z,Z,Z,Z,Z,Z,Z,Z,Z]
def r9 (t6 : AV) : Fr := ⟨[J,J,J,J,J,J,t6,J,J,J,J,J,J,J,J,J,J,J,J,J,J,J,J,J,J,J,J,J,J,J,J,J,J,J,J,J,J,J,J,J,J,J,J,J,J,J,J,J,J,J,J,J,J,J,J,J,J,J,J,J,J,J,J,J,J,J,J,J,J,J,J,J,J,J,J,J,J,J,J,J,J,J,J,J,J,J,J,J,J,J,J,J,J,J,J,J,J,J,J,J,J,J,J], [], .call⟩
abbrev q9_0 : List Bool := [X,X,X,Z,Z,Z,Z,Z,X,Z,Z,Z,Z,Z,Z,Z,Z,Z,Z,Z,Z,Z,Z,Z,Z,Z,Z,Z,Z,Z,Z,Z,Z,Z,Z,Z,Z,Z,Z,Z,Z,Z,Z,Z,Z,Z,Z,Z,Z,Z,Z,Z,Z,Z,Z,Z,Z,Z,Z,Z,Z,Z,Z,Z,Z,Z,Z,Z,Z,Z,Z,Z,Z,Z,Z,Z,Z,Z,Z,Z,Z,Z,Z,Z,Z,Z,Z,Z,Z,Z,Z,Z,Z,Z,Z,Z,Z,Z,Z,Z,Z,Z,Z]
abbrev q9_1 : List Bool := [X,X,X,Z,Z,Z,Z,X,X,X,Z,Z,Z,Z,Z,Z,Z,Z,Z,Z,Z,Z,Z,Z,Z,Z,Z,Z,Z,Z,Z,Z,Z,Z,Z,Z,Z,Z,Z,Z,Z,Z,Z,Z,Z,Z,Z,Z,Z,Z,Z,Z,Z,Z,Z,Z,Z,Z,Z,Z,Z,Z,Z,Z,Z,Z,Z,Z,Z,Z,Z,Z,Z,Z,Z,Z,Z,Z,Z,Z,Z,Z,Z,Z,Z,Z,Z,Z,Z,Z,Z,Z,Z,Z,Z,Z,Z,Z,Z,Z,Z,Z,Z]
def x9_1 (t0 t1 t2 t7 t8 t9 : AV) : Fr := ⟨[t0,t1,t2,J,J,J,J,t7,t8,t9,J,J,J,J,J,J,J,J,J,J,J,J,J,J,J,J,J,J,J,J,J,J,J,J,J,J,J,J,J,J,J,J,J,J,J,J,J,J,J,J,J,J,J,J,J,J,J,J,J,J,J,J,J,J,J,J,J,J,J,J,J,J,J,J,J,J,J,J,J,J,J,J,J,J,J,J,J,J,J,J,J,J,J,J,J,J,J,J,J,J,J,J,J], [], .call⟩
abbrev k9_0 : List Bool := [X,X,X,Z,Z,Z,Z,X,X,X,Z,Z,Z,Z,Z,Z,Z,Z,Z,Z,Z,Z,Z,Z,Z,Z,Z,Z,Z,Z,Z,Z,Z,Z,Z,Z,Z,Z,Z,Z,Z,Z,Z,Z,Z,Z,Z,Z,Z,Z,Z,Z,Z,Z,Z,Z,Z,Z,Z,Z,Z,Z,Z,Z,Z,Z,Z,Z,Z,Z,Z,Z,Z,Z,Z,Z,Z,Z,Z,Z,Z,Z,Z,Z,Z,Z,Z,Z,Z,Z,Z,Z,Z,Z,Z,Z,Z,Z,Z,Z,Z,Z,Z]
def l9_0 : SCode := (.seq (.seq (.region false [
    .m 24 9,
    .m 25 7,
    .o 26 (.len .slc (.t 25)),
    .o 27 (.bin .lss .none (.t 24) (.t 26))])
  (.cond (.t 27)
  .skip
  (.exit 0 q9_0)))
  (.seq (.block 1 q9_1
  (.seq (.region true [
    .m 30 7,
    .m 31 9,
    .o 32 (.indexAddrVs 1 (.t 30) (.t 31)),
    .o 33 (.load false 1 (.t 32)),
    .m 34 8,
    .m 35 9,
    .o 36 (.indexAddrVs 1 (.t 34) (.t 35)),
    .o 37 (.load false 1 (.t 36)),
    .o 38 (.bin .neq .none (.t 33) (.t 37))])
  (.cond (.t 38)
  (.seq (.region false [
    .o 6 (.mov (.b false))])
  (.ret q9))
  .skip)))
  (.region false [
    .m 28 9,
    .o 29 (.bin .add .none (.t 28) (.i 1)),
    .m 9 29])))
def s9_0 (t0 t1 t2 t7 t8 t9 : AV) : Fr := ⟨[t0,t1,t2,J,J,J,J,t7,t8,t9,J,J,J,J,J,J,J,J,J,J,J,J,J,J,J,J,J,J,J,J,J,J,J,J,J,J,J,J,J,J,J,J,J,J,J,J,J,J,J,J,J,J,J,J,J,J,J,J,J,J,J,J,J,J,J,J,J,J,J,J,J,J,J,J,J,J,J,J,J,J,J,J,J,J,J,J,J,J,J,J,J,J,J,J,J,J,J,J,J,J,J,J,J], [], .call⟩
def x9_0 (t0 t1 t2 t8 : AV) : Fr := ⟨[t0,t1,t2,J,J,J,J,J,t8,J,J,J,J,J,J,J,J,J,J,J,J,J,J,J,J,J,J,J,J,J,J,J,J,J,J,J,J,J,J,J,J,J,J,J,J,J,J,J,J,J,J,J,J,J,J,J,J,J,J,J,J,J,J,J,J,J,J,J,J,J,J,J,J,J,J,J,J,J,J,J,J,J,J,J,J,J,J,J,J,J,J,J,J,J,J,J,J,J,J,J,J,J,J], [], .call⟩
/-- drachm/drachmlaw18.tells -/
def f9 : SFunc := ⟨.closed, 103, [(.tmp 6)],
  (.seq (.region false [
    .o 6 (.mov (.b false))])
  (.seq (.region false [
    .m 15 0,
    .o 16 (.call (.f 11) [(.t 15)]),
    .m 7 16])
  (.seq (.region false [
    .m 17 0,
    .o 18 (.call (.f 21) [(.t 17)]),
    .m 8 18])
  (.seq (.seq (.region false [
    .m 19 7,
    .o 20 (.len .slc (.t 19)),
    .m 21 8,
    .o 22 (.len .slc (.t 21)),
    .o 23 (.bin .neq .none (.t 20) (.t 22))])
  (.cond (.t 23)
  (.seq (.region false [
    .o 6 (.mov (.b false))])
  (.ret q9))
  .skip))
  (.seq (.seq (.region false [
    .o 9 (.mov (.i 0))])
  (.block 0 q9_0
  (.loop k9_0 l9_0)))
  (.seq (.region false [
    .m 40 0,
    .m 41 1,
    .o 42 (.call (.f 12) [(.t 40), (.t 41)]),
    .m 39 42,
    .o 43 (.extract 0 (.t 39)),
    .o 44 (.extract 1 (.t 39)),
    .m 10 43,
    .m 11 44])
  (.seq (.region false [
    .m 45 8,
    .m 46 1,
    .o 47 (.call (.f 22) [(.t 45), (.t 46)]),
    .m 12 47])
  (.seq (.region false [
    .m 49 0,
    .m 50 2,
    .o 51 (.call (.f 14) [(.t 49), (.t 50)]),
    .m 48 51,
    .o 52 (.extract 0 (.t 48)),
    .o 53 (.extract 1 (.t 48)),
    .m 13 52,
    .m 14 53])
  (.seq (.seq (.region false [
    .m 54 11,
    .m 55 12,
    .o 56 (.bin .geq .none (.t 55) (.i 0)),
    .o 57 (.bin .neq .bool (.t 54) (.t 56)),
    .m 58 57,
    .gm 59 58 false 11,
    .gm 60 58 false 59,
    .gm 61 60 true 10,
    .gm 62 60 true 12,
    .g 63 60 true (.bin .neq .none (.t 61) (.t 62)),
    .g 64 58 false (.pick (.t 60) (.t 63) (.b false)),
    .o 65 (.pick (.t 58) (.b true) (.t 64)),
    .m 66 65,
    .gm 67 66 false 11,
    .g 68 66 false (.un .not (.t 67)),
    .gm 69 66 false 68,
    .gm 70 69 true 10,
    .g 71 69 true (.bin .neq .none (.t 70) (.i 0)),
    .g 72 66 false (.pick (.t 69) (.t 71) (.b false)),
    .o 73 (.pick (.t 66) (.b true) (.t 72)),
    .m 74 73,
    .gm 75 74 false 14,
    .gm 76 74 false 2,
    .g 77 74 false (.bin .geq .none (.t 76) (.i 0)),
    .gm 78 74 false 77,
    .gm 79 78 true 2,
    .gm 80 78 true 8,
    .g 81 78 true (.len .slc (.t 80)),
    .g 82 78 true (.bin .lss .none (.t 79) (.t 81)),
    .g 83 74 false (.pick (.t 78) (.t 82) (.b false)),
    .g 84 74 false (.bin .neq .bool (.t 75) (.t 83)),
    .o 85 (.pick (.t 74) (.b true) (.t 84))])
  (.cond (.t 85)
  (.seq (.region false [
    .o 6 (.mov (.b false))])
  (.ret q9))
  .skip))
  (.seq (.region false [
    .m 86 14,
    .m 87 86,
    .gm 88 87 true 13,
    .gm 89 87 true 8,
    .gm 90 87 true 2,
    .g 91 87 true (.indexAddrVs 1 (.t 89) (.t 90)),
    .g 92 87 true (.load false 1 (.t 91)),
    .g 93 87 true (.bin .eql .none (.t 88) (.t 92)),
    .o 94 (.pick (.t 87) (.t 93) (.b false)),
    .m 95 94,
    .gm 96 95 false 14,
    .g 97 95 false (.un .not (.t 96)),
    .gm 98 95 false 97,
    .gm 99 98 true 13,
    .g 100 98 true (.bin .eql .none (.t 99) (.s [])),
    .g 101 95 false (.pick (.t 98) (.t 100) (.b false)),
    .o 102 (.pick (.t 95) (.b true) (.t 101)),
    .m 6 102])
  (.ret q9)))))))))))⟩
abbrev q10 : List Bool := [Z,Z,Z,Z,X,Z,Z,Z,Z,Z,Z,Z]
def r10 (t4 : AV) : Fr := ⟨[J,J,J,J,t4,J,J,J,J,J,J,J], [], .call⟩
/-- drachm/drachmlaw18.rest -/
def f10 : SFunc := ⟨.closed, 12, [(.tmp 4)],
  (.seq (.region false [
    .o 4 (.mov (.i 0))])
  (.seq (.region false [
    .m 5 0,
    .m 6 1,
    .o 7 (.bin .rem .none (.t 5) (.t 6)),
    .m 8 1,
    .o 9 (.bin .add .none (.t 7) (.t 8)),
    .m 10 1,
    .o 11 (.bin .rem .none (.t 9) (.t 10)),
    .m 4 11])
  (.ret q10)))⟩
abbrev q11_1 : List Bool := [Z,Z,Z,X,Z,Z,Z,Z,Z,Z,Z,Z,Z,Z]
def x11_1 (t3 : AV) : Fr := ⟨[J,J,J,t3,J,J,J,J,J,J,J,J,J,J], [], .call⟩
def a11_0 : SCode := (.region false [
    .m 4 7])
def b11_0 : SCode := (.block 1 q11_1
  (.region false [
    .o 9 (.load false 1 (.t 3)),
    .m 10 4,
    .o 11 (.buildSlice 1 [(.str [])] [(0, 1, (.t 10))]),
    .o 12 (.append 1 16 (.t 9) (.t 11)),
    .n (.store 1 (.t 3) (.t 12))]))
abbrev q11_0 : List Bool := [Z,Z,Z,X,Z,Z,Z,Z,Z,Z,Z,Z,Z,Z]
def x11_0 (t3 : AV) : Fr := ⟨[J,J,J,t3,J,J,J,J,J,J,J,J,J,J], [], .call⟩
abbrev q11 : List Bool := [Z,Z,X,Z,Z,Z,Z,Z,Z,Z,Z,Z,Z,Z]
def r11 (t2 : AV) : Fr := ⟨[J,J,t2,J,J,J,J,J,J,J,J,J,J,J], [], .call⟩
/-- drachm/legal.Row -/
def f11 : SFunc := ⟨.closed, 14, [(.tmp 2)],
  (.seq (.region false [
    .o 2 (.mov (.const .nils))])
  (.seq (.region false [
    .o 3 (.alloc [.nils])])
  (.seq (.seq (.region false [
    .m 5 0,
    .o 6 (.call (.f 23) [(.t 5)])])
  (.block 0 q11_0
  (.rangeFunc (.t 6) [7, 8] a11_0 b11_0)))
  (.seq (.region false [
    .o 13 (.load false 1 (.t 3)),
    .m 2 13])
  (.ret q11)))))⟩
abbrev q12 : List Bool := [Z,Z,Z,Z,X,X,Z,Z,Z,Z,Z,Z,Z,Z,Z,Z,Z]
def r12 (t4 t5 : AV) : Fr := ⟨[J,J,J,J,t4,t5,J,J,J,J,J,J,J,J,J,J,J], [], .call⟩
/-- drachm/legal.Rank -/
def f12 : SFunc := ⟨.closed, 17, [(.tmp 4), (.tmp 5)],
  (.seq (.region false [
    .o 4 (.mov (.i 0)),
    .o 5 (.mov (.b false))])
  (.seq (.region false [
    .m 9 0,
    .o 10 (.call (.f 24) [(.t 9)]),
    .m 11 1,
    .o 12 (.lookup .str (.int .i64 0) true (.t 10) (.t 11)),
    .m 8 12,
    .o 13 (.extract 0 (.t 8)),
    .o 14 (.extract 1 (.t 8)),
    .m 6 13,
    .m 7 14])
  (.seq (.region false [
    .m 15 6,
    .m 16 7,
    .m 4 15,
    .m 5 16])
  (.ret q12))))⟩
abbrev q13 : List Bool := [Z,Z,Z,Z,X,X,X,Z,Z,Z,Z,Z,Z,Z,Z,Z,Z,Z,Z,Z,Z,Z]
def r13 (t4 t5 t6 : AV) : Fr := ⟨[J,J,J,J,t4,t5,t6,J,J,J,J,J,J,J,J,J,J,J,J,J,J,J], [], .call⟩
/-- drachm/symbol.Find -/
def f13 : SFunc := ⟨.closed, 22, [(.tmp 4), (.tmp 5), (.tmp 6)],
  (.seq (.region false [
    .o 4 (.mov (.i 0)),
    .o 5 (.mov (.i 0)),
    .o 6 (.mov (.b false))])
  (.seq (.region false [
    .m 10 0,
    .o 11 (.call (.f 25) [(.t 10)]),
    .m 9 11,
    .o 12 (.extract 0 (.t 9)),
    .o 13 (.extract 1 (.t 9)),
    .o 7 (.alloc [.nils, .nils, (.int .i64 0)]),
    .n (.store 3 (.t 7) (.t 12)),
    .m 8 13])
  (.seq (.seq (.region false [
    .m 14 8,
    .o 15 (.un .not (.t 14))])
  (.cond (.t 15)
  (.seq (.region false [
    .o 4 (.mov (.i (-1))),
    .o 5 (.mov (.i (-1))),
    .o 6 (.mov (.b false))])
  (.ret q13))
  .skip))
  (.seq (.region false [
    .o 16 (.load true 3 (.t 7)),
    .m 17 1,
    .o 18 (.call (.f 26) [(.t 16), (.t 17)]),
    .o 19 (.extract 0 (.t 18)),
    .o 20 (.extract 1 (.t 18)),
    .o 21 (.extract 2 (.t 18)),
    .m 4 19,
    .m 5 20,
    .m 6 21])
  (.ret q13)))))⟩
abbrev q14 : List Bool := [Z,Z,Z,Z,X,X,Z,Z,Z,Z,Z,Z,Z,Z,Z,Z,Z,Z,Z,Z,Z]
def r14 (t4 t5 : AV) : Fr := ⟨[J,J,J,J,t4,t5,J,J,J,J,J,J,J,J,J,J,J,J,J,J,J], [], .call⟩
/-- drachm/legal.At -/
def f14 : SFunc := ⟨.closed, 21, [(.tmp 4), (.tmp 5)],
  (.seq (.region false [
    .o 4 (.mov (.s [])),
    .o 5 (.mov (.b false))])
  (.seq (.region false [
    .m 7 0,
    .o 8 (.call (.f 11) [(.t 7)]),
    .m 6 8])
  (.seq (.seq (.region false [
    .m 9 1,
    .o 10 (.bin .lss .none (.t 9) (.i 0)),
    .m 11 10,
    .gm 12 11 false 1,
    .gm 13 11 false 6,
    .g 14 11 false (.len .slc (.t 13)),
    .g 15 11 false (.bin .geq .none (.t 12) (.t 14)),
    .o 16 (.pick (.t 11) (.b true) (.t 15))])
  (.cond (.t 16)
  (.seq (.region false [
    .o 4 (.mov (.s [])),
    .o 5 (.mov (.b false))])
  (.ret q14))
  .skip))
  (.seq (.region false [
    .m 17 6,
    .m 18 1,
    .o 19 (.indexAddrVs 1 (.t 17) (.t 18)),
    .o 20 (.load false 1 (.t 19)),
    .m 4 20,
    .o 5 (.mov (.b true))])
  (.ret q14)))))⟩
abbrev q15 : List Bool := [Z,Z,X,Z,Z,Z,Z,Z,Z,Z,Z]
def r15 (t2 : AV) : Fr := ⟨[J,J,t2,J,J,J,J,J,J,J,J], [], .call⟩
/-- drachm/legal.Trie -/
def f15 : SFunc := ⟨.open_, 11, [(.tmp 2)],
  (.seq (.region false [
    .o 2 (.mov (.const .nilp))])
  (.seq (.region false [
    .m 4 0,
    .o 5 (.call (.f 11) [(.t 4)]),
    .m 3 5])
  (.seq (.seq (.region false [
    .m 6 3,
    .o 7 (.len .slc (.t 6)),
    .o 8 (.bin .eql .none (.t 7) (.i 0))])
  (.cond (.t 8)
  (.seq (.region false [
    .o 2 (.mov (.const .nilp))])
  (.ret q15))
  .skip))
  (.seq (.region false [
    .m 9 3,
    .o 10 (.call (.f 27) [(.t 9)]),
    .m 2 10])
  (.ret q15)))))⟩
abbrev q16_0 : List Bool := [X,Z,Z,Z,Z,Z,X,Z,Z,Z,Z,Z,Z,Z,Z,Z,Z,Z,Z,Z,Z,Z,Z,Z,Z,Z,Z,Z,Z,Z,Z,Z,Z,Z]
abbrev q16 : List Bool := [Z,Z,Z,Z,X,X,Z,Z,Z,Z,Z,Z,Z,Z,Z,Z,Z,Z,Z,Z,Z,Z,Z,Z,Z,Z,Z,Z,Z,Z,Z,Z,Z,Z]
def r16 (t4 t5 : AV) : Fr := ⟨[J,J,J,J,t4,t5,J,J,J,J,J,J,J,J,J,J,J,J,J,J,J,J,J,J,J,J,J,J,J,J,J,J,J,J], [], .call⟩
abbrev q16_1 : List Bool := [X,Z,Z,Z,Z,Z,X,Z,Z,Z,Z,Z,X,X,X,Z,Z,Z,Z,Z,Z,Z,Z,Z,Z,Z,Z,Z,Z,Z,Z,Z,Z,Z]
def x16_1 (t0 t6 t12 t13 t14 : AV) : Fr := ⟨[t0,J,J,J,J,J,t6,J,J,J,J,J,t12,t13,t14,J,J,J,J,J,J,J,J,J,J,J,J,J,J,J,J,J,J,J], [], .call⟩
abbrev k16_0 : List Bool := [X,Z,Z,Z,Z,Z,X,Z,Z,Z,Z,Z,X,X,X,Z,Z,Z,Z,Z,Z,Z,Z,Z,Z,Z,Z,Z,Z,Z,Z,Z,Z,Z]
def l16_0 : SCode := (.seq (.region false [
    .o 15 (.bin .lss .none (.t 14) (.t 13))])
  (.seq (.cond (.t 15)
  .skip
  (.exit 0 q16_0))
  (.seq (.block 1 q16_1
  (.seq (.region false [
    .o 16 (.indexAddrVs 1 (.t 12) (.t 14)),
    .o 17 (.load false 1 (.t 16)),
    .m 8 17])
  (.seq (.region false [
    .m 19 0,
    .m 20 6,
    .m 21 8,
    .o 22 (.call (.f 28) [(.t 19), (.t 20), (.t 21)]),
    .m 18 22,
    .o 23 (.extract 0 (.t 18)),
    .o 24 (.extract 1 (.t 18)),
    .m 9 23,
    .m 10 24])
  (.seq (.seq (.region false [
    .m 25 10,
    .o 26 (.un .not (.t 25))])
  (.cond (.t 26)
  (.seq (.region false [
    .o 4 (.mov (.i 0)),
    .o 5 (.mov (.b false))])
  (.ret q16))
  .skip))
  (.region false [
    .m 27 9,
    .m 6 27])))))
  (.region false [
    .o 28 (.bin .add .none (.t 14) (.i 1)),
    .m 14 28]))))
def s16_0 (t0 t6 t12 t13 t14 : AV) : Fr := ⟨[t0,J,J,J,J,J,t6,J,J,J,J,J,t12,t13,t14,J,J,J,J,J,J,J,J,J,J,J,J,J,J,J,J,J,J,J], [], .call⟩
def x16_0 (t0 t6 : AV) : Fr := ⟨[t0,J,J,J,J,J,t6,J,J,J,J,J,J,J,J,J,J,J,J,J,J,J,J,J,J,J,J,J,J,J,J,J,J,J], [], .call⟩
/-- (*drachm/trie.Trie).Find -/
def f16 : SFunc := ⟨.reader, 34, [(.tmp 4), (.tmp 5)],
  (.seq (.region false [
    .o 4 (.mov (.i 0)),
    .o 5 (.mov (.b false))])
  (.seq (.region false [
    .o 6 (.mov (.i 0))])
  (.seq (.seq (.region false [
    .m 11 1,
    .o 12 (.conv .toBytes (.t 11)),
    .o 13 (.len .slc (.t 12)),
    .o 14 (.mov (.i 0))])
  (.block 0 q16_0
  (.loop k16_0 l16_0)))
  (.seq (.region false [
    .m 29 0,
    .m 30 6,
    .o 31 (.call (.f 29) [(.t 29), (.t 30)]),
    .o 32 (.extract 0 (.t 31)),
    .o 33 (.extract 1 (.t 31)),
    .m 4 32,
    .m 5 33])
  (.ret q16)))))⟩
abbrev q17 : List Bool := [X,Z,Z,Z,Z,Z,Z,Z,Z,Z,Z,Z,Z,Z,Z,Z,Z,Z,Z,Z,Z,Z,Z,Z,Z,Z,Z,Z,Z,Z,Z,Z,Z,Z,Z,Z,Z,Z,Z,Z,Z,Z,Z,Z,Z,Z,Z,Z,Z,Z,Z,Z,Z,Z,Z,Z,Z]
def r17 (t0 : AV) : Fr := ⟨[t0,J,J,J,J,J,J,J,J,J,J,J,J,J,J,J,J,J,J,J,J,J,J,J,J,J,J,J,J,J,J,J,J,J,J,J,J,J,J,J,J,J,J,J,J,J,J,J,J,J,J,J,J,J,J,J,J], [], .call⟩
/-- drachm/drachmlaw11.awake -/
def f17 : SFunc := ⟨.closed, 57, [(.tmp 0)],
  (.seq (.region false [
    .o 0 (.mov (.b false))])
  (.seq (.region false [
    .o 4 (.call (.f 20) [(.i 1), (.s [47, 109, 46, 115, 45, 50])]),
    .o 1 (.alloc [.nils, (.int .i64 0), (.int .i64 0), (.int .i64 0)]),
    .n (.store 4 (.t 1) (.t 4))])
  (.seq (.region false [
    .o 5 (.call (.f 20) [(.i 1), (.s [109, 41])]),
    .o 2 (.alloc [.nils, (.int .i64 0), (.int .i64 0), (.int .i64 0)]),
    .n (.store 4 (.t 2) (.t 5))])
  (.seq (.region false [
    .o 6 (.call (.f 20) [(.i 1), (.s [109, 103, 47, 120, 121, 122])]),
    .o 3 (.alloc [.nils, (.int .i64 0), (.int .i64 0), (.int .i64 0)]),
    .n (.store 4 (.t 3) (.t 6))])
  (.seq (.region false [
    .o 7 (.fieldAddr 1 (.t 1)),
    .o 8 (.load false 1 (.t 7)),
    .o 9 (.bin .eql .none (.t 8) (.i 0)),
    .m 10 9,
    .g 11 10 true (.fieldAddr 0 (.t 1)),
    .g 12 10 true (.load false 1 (.t 11)),
    .g 13 10 true (.len .slc (.t 12)),
    .g 14 10 true (.bin .eql .none (.t 13) (.i 4)),
    .o 15 (.pick (.t 10) (.t 14) (.b false)),
    .m 16 15,
    .g 17 16 true (.fieldAddr 0 (.t 1)),
    .g 18 16 true (.load false 1 (.t 17)),
    .g 19 16 true (.indexAddrVs 6 (.t 18) (.i 1)),
    .g 20 16 true (.fieldAddr 0 (.t 19)),
    .g 21 16 true (.load false 1 (.t 20)),
    .g 22 16 true (.bin .eql .none (.t 21) (.i 5)),
    .o 23 (.pick (.t 16) (.t 22) (.b false)),
    .m 24 23,
    .g 25 24 true (.fieldAddr 0 (.t 1)),
    .g 26 24 true (.load false 1 (.t 25)),
    .g 27 24 true (.indexAddrVs 6 (.t 26) (.i 2)),
    .g 28 24 true (.fieldAddr 3 (.t 27)),
    .g 29 24 true (.load false 1 (.t 28)),
    .g 30 24 true (.bin .eql .none (.t 29) (.i (-2))),
    .o 31 (.pick (.t 24) (.t 30) (.b false)),
    .m 32 31,
    .g 33 32 true (.fieldAddr 1 (.t 2)),
    .g 34 32 true (.load false 1 (.t 33)),
    .g 35 32 true (.bin .eql .none (.t 34) (.i 14)),
    .o 36 (.pick (.t 32) (.t 35) (.b false)),
    .m 37 36,
    .g 38 37 true (.fieldAddr 2 (.t 2)),
    .g 39 37 true (.load false 1 (.t 38)),
    .g 40 37 true (.bin .eql .none (.t 39) (.i 1)),
    .o 41 (.pick (.t 37) (.t 40) (.b false)),
    .m 42 41,
    .g 43 42 true (.fieldAddr 1 (.t 3)),
    .g 44 42 true (.load false 1 (.t 43)),
    .g 45 42 true (.bin .eql .none (.t 44) (.i 15)),
    .o 46 (.pick (.t 42) (.t 45) (.b false)),
    .m 47 46,
    .g 48 47 true (.fieldAddr 2 (.t 3)),
    .g 49 47 true (.load false 1 (.t 48)),
    .g 50 47 true (.bin .eql .none (.t 49) (.i 3)),
    .o 51 (.pick (.t 47) (.t 50) (.b false)),
    .m 52 51,
    .g 53 52 true (.fieldAddr 3 (.t 3)),
    .g 54 52 true (.load false 1 (.t 53)),
    .g 55 52 true (.bin .eql .none (.t 54) (.i 3)),
    .o 56 (.pick (.t 52) (.t 55) (.b false)),
    .m 0 56])
  (.ret q17))))))⟩
abbrev q18 : List Bool := [Z,Z,Z,Z,X,Z,Z,Z,Z,Z,Z,Z]
def r18 (t4 : AV) : Fr := ⟨[J,J,J,J,t4,J,J,J,J,J,J,J], [], .call⟩
/-- drachm/drachmlaw11.rest -/
def f18 : SFunc := ⟨.closed, 12, [(.tmp 4)],
  (.seq (.region false [
    .o 4 (.mov (.i 0))])
  (.seq (.region false [
    .m 5 0,
    .m 6 1,
    .o 7 (.bin .rem .none (.t 5) (.t 6)),
    .m 8 1,
    .o 9 (.bin .add .none (.t 7) (.t 8)),
    .m 10 1,
    .o 11 (.bin .rem .none (.t 9) (.t 10)),
    .m 4 11])
  (.ret q18)))⟩
abbrev q19 : List Bool := [Z,Z,X,Z,Z,Z,Z,Z,Z,Z,Z,Z,Z,Z,Z,Z,Z,Z,Z,Z]
def r19 (t2 : AV) : Fr := ⟨[J,J,t2,J,J,J,J,J,J,J,J,J,J,J,J,J,J,J,J,J], [], .call⟩
abbrev q19_0 : List Bool := [Z,Z,X,Z,Z,Z,Z,Z,Z,Z,Z,Z,Z,Z,Z,Z,Z,Z,Z,Z]
def x19_0 (t2 : AV) : Fr := ⟨[J,J,t2,J,J,J,J,J,J,J,J,J,J,J,J,J,J,J,J,J], [], .call⟩
/-- drachm/drachmref07.Of -/
def f19 : SFunc := ⟨.closed, 20, [(.cell 2 true 6)],
  (.seq (.region false [
    .o 2 (.alloc [(.bool false), (.int .u8 0), (.int .u8 0), (.int .u8 0), (.int .u8 0), (.int .u8 0)])])
  (.seq (.seq (.region false [
    .m 3 0])
  (.block 0 q19_0
  (.seq (.region false [
    .o 5 (.bin .eql .none (.t 3) (.i 1)),
    .m 4 5])
  (.cond (.t 4)
  (.seq (.region false [
    .o 6 (.build [(.bool false), (.int .u8 0), (.int .u8 0), (.int .u8 0), (.int .u8 0), (.int .u8 0)] [(1, 1, (.const (.int .u8 46))), (2, 1, (.const (.int .u8 47))), (4, 1, (.const (.int .u8 123))), (5, 1, (.const (.int .u8 125)))]),
    .n (.store 6 (.t 2) (.t 6))])
  (.ret q19))
  (.seq (.region false [
    .o 8 (.bin .eql .none (.t 3) (.i 2)),
    .m 7 8])
  (.cond (.t 7)
  (.seq (.region false [
    .o 9 (.build [(.bool false), (.int .u8 0), (.int .u8 0), (.int .u8 0), (.int .u8 0), (.int .u8 0)] [(0, 1, (.b true)), (1, 1, (.const (.int .u8 46))), (2, 1, (.const (.int .u8 47))), (4, 1, (.const (.int .u8 123))), (5, 1, (.const (.int .u8 125)))]),
    .n (.store 6 (.t 2) (.t 9))])
  (.ret q19))
  (.seq (.region false [
    .o 11 (.bin .eql .none (.t 3) (.i 3)),
    .m 10 11])
  (.cond (.t 10)
  (.seq (.region false [
    .o 12 (.build [(.bool false), (.int .u8 0), (.int .u8 0), (.int .u8 0), (.int .u8 0), (.int .u8 0)] [(1, 1, (.const (.int .u8 42))), (2, 1, (.const (.int .u8 47))), (3, 1, (.const (.int .u8 94))), (4, 1, (.const (.int .u8 60))), (5, 1, (.const (.int .u8 62)))]),
    .n (.store 6 (.t 2) (.t 12))])
  (.ret q19))
  (.seq (.region false [
    .o 14 (.bin .eql .none (.t 3) (.i 4)),
    .m 13 14])
  (.cond (.t 13)
  (.seq (.region false [
    .o 15 (.build [(.bool false), (.int .u8 0), (.int .u8 0), (.int .u8 0), (.int .u8 0), (.int .u8 0)] [(0, 1, (.b true)), (1, 1, (.const (.int .u8 46))), (2, 1, (.const (.int .u8 47)))]),
    .n (.store 6 (.t 2) (.t 15))])
  (.ret q19))
  (.seq (.region false [
    .o 17 (.bin .eql .none (.t 3) (.i 5)),
    .m 16 17])
  (.cond (.t 16)
  (.seq (.region false [
    .o 18 (.build [(.bool false), (.int .u8 0), (.int .u8 0), (.int .u8 0), (.int .u8 0), (.int .u8 0)] [(1, 1, (.const (.int .u8 46))), (2, 1, (.const (.int .u8 47))), (3, 1, (.const (.int .u8 94)))]),
    .n (.store 6 (.t 2) (.t 18))])
  (.ret q19))
  .skip))))))))))))
  (.seq (.region false [
    .o 19 (.build [(.bool false), (.int .u8 0), (.int .u8 0), (.int .u8 0), (.int .u8 0), (.int .u8 0)] []),
    .n (.store 6 (.t 2) (.t 19))])
  (.ret q19))))⟩
abbrev q20 : List Bool := [Z,Z,Z,Z,X,Z,Z,Z,Z,Z,Z,Z,Z,Z,Z,Z,Z,Z,Z,Z,Z,Z,Z,Z,Z,Z,Z,Z,Z,Z,Z,Z,Z,Z,Z,Z,Z]
def r20 (t4 : AV) : Fr := ⟨[J,J,J,J,t4,J,J,J,J,J,J,J,J,J,J,J,J,J,J,J,J,J,J,J,J,J,J,J,J,J,J,J,J,J,J,J,J], [], .call⟩
/-- drachm/parse.Parse -/
def f20 : SFunc := ⟨.closed, 37, [(.cell 4 true 4)],
  (.seq (.region false [
    .o 4 (.alloc [.nils, (.int .i64 0), (.int .i64 0), (.int .i64 0)])])
  (.seq (.region false [
    .m 9 0,
    .m 10 1,
    .o 11 (.call (.f 30) [(.t 9), (.t 10)]),
    .m 8 11,
    .o 12 (.extract 0 (.t 8)),
    .o 13 (.extract 1 (.t 8)),
    .o 14 (.extract 2 (.t 8)),
    .m 5 12,
    .m 6 13,
    .m 7 14])
  (.seq (.seq (.region false [
    .m 15 7,
    .o 16 (.bin .eql .none (.t 15) (.i 14))])
  (.cond (.t 16)
  (.seq (.region false [
    .m 17 5,
    .m 18 0,
    .m 19 1,
    .o 20 (.call (.f 32) [(.t 18), (.t 19)]),
    .o 21 (.call (.f 31) [(.t 17), (.t 20)]),
    .m 5 21])
  (.seq (.region false [
    .m 22 5,
    .m 23 6,
    .o 24 (.build [(.int .i64 0), (.int .i64 0), (.str []), (.int .i64 0)] [(0, 1, (.i 0)), (1, 1, (.t 23))]),
    .o 25 (.buildSlice 1 [(.int .i64 0), (.int .i64 0), (.str []), (.int .i64 0)] [(0, 4, (.t 24))]),
    .o 26 (.append 4 40 (.t 22) (.t 25)),
    .m 5 26])
  (.region false [
    .o 7 (.mov (.i 0))])))
  .skip))
  (.seq (.seq (.region false [
    .m 27 7,
    .o 28 (.bin .neq .none (.t 27) (.i 0))])
  (.cond (.t 28)
  (.seq (.region false [
    .m 29 7,
    .m 30 6,
    .o 31 (.build [.nils, (.int .i64 0), (.int .i64 0), (.int .i64 0)] [(1, 1, (.t 29)), (2, 1, (.t 30))]),
    .n (.store 4 (.t 4) (.t 31))])
  (.ret q20))
  .skip))
  (.seq (.region false [
    .m 32 0,
    .m 33 5,
    .m 34 1,
    .o 35 (.len .str (.t 34)),
    .o 36 (.call (.f 33) [(.t 32), (.t 33), (.t 35)]),
    .n (.store 4 (.t 4) (.t 36))])
  (.ret q20))))))⟩
abbrev q21_0 : List Bool := [Z,Z,Z,Z,X,Z,Z,Z,Z,Z,Z,Z,Z,Z,Z,Z,Z,Z,Z,Z,Z,Z,Z]
abbrev q21_1 : List Bool := [Z,Z,Z,X,X,X,Z,Z,Z,Z,Z,Z,Z,Z,Z,Z,Z,Z,Z,Z,Z,Z,Z]
def x21_1 (t3 t4 t5 : AV) : Fr := ⟨[J,J,J,t3,t4,t5,J,J,J,J,J,J,J,J,J,J,J,J,J,J,J,J,J], [], .call⟩
abbrev k21_0 : List Bool := [Z,Z,Z,X,X,X,Z,Z,Z,Z,Z,Z,Z,Z,Z,Z,Z,Z,Z,Z,Z,Z,Z]
def l21_0 : SCode := (.seq (.seq (.region false [
    .m 8 5,
    .m 9 3,
    .o 10 (.len .slc (.t 9)),
    .o 11 (.bin .lss .none (.t 8) (.t 10))])
  (.cond (.t 11)
  .skip
  (.exit 0 q21_0)))
  (.seq (.block 1 q21_1
  (.region false [
    .m 14 4,
    .m 15 3,
    .m 16 5,
    .o 17 (.indexAddrVs 3 (.t 15) (.t 16)),
    .o 18 (.fieldAddr 0 (.t 17)),
    .o 19 (.load false 1 (.t 18)),
    .o 20 (.buildSlice 1 [(.str [])] [(0, 1, (.t 19))]),
    .o 21 (.append 1 16 (.t 14) (.t 20)),
    .m 4 21]))
  (.region false [
    .m 12 5,
    .o 13 (.bin .add .none (.t 12) (.i 1)),
    .m 5 13])))
def s21_0 (t3 t4 t5 : AV) : Fr := ⟨[J,J,J,t3,t4,t5,J,J,J,J,J,J,J,J,J,J,J,J,J,J,J,J,J], [], .call⟩
def x21_0 (t4 : AV) : Fr := ⟨[J,J,J,J,t4,J,J,J,J,J,J,J,J,J,J,J,J,J,J,J,J,J,J], [], .call⟩
abbrev q21 : List Bool := [Z,Z,X,Z,Z,Z,Z,Z,Z,Z,Z,Z,Z,Z,Z,Z,Z,Z,Z,Z,Z,Z,Z]
def r21 (t2 : AV) : Fr := ⟨[J,J,t2,J,J,J,J,J,J,J,J,J,J,J,J,J,J,J,J,J,J,J,J], [], .call⟩
/-- drachm/drachmref18.Row -/
def f21 : SFunc := ⟨.closed, 23, [(.tmp 2)],
  (.seq (.region false [
    .o 2 (.mov (.const .nils))])
  (.seq (.region false [
    .m 6 0,
    .o 7 (.call (.f 34) [(.t 6)]),
    .m 3 7])
  (.seq (.region false [
    .o 4 (.mov (.const .nils))])
  (.seq (.seq (.region false [
    .o 5 (.mov (.i 0))])
  (.block 0 q21_0
  (.loop k21_0 l21_0)))
  (.seq (.region false [
    .m 22 4,
    .m 2 22])
  (.ret q21))))))⟩
abbrev q22_0 : List Bool := [Z,Z,Z,Z,Z,Z,Z,Z,Z,Z,Z,Z,Z,Z,Z,Z,Z,Z,Z]
abbrev q22 : List Bool := [Z,Z,Z,Z,X,Z,Z,Z,Z,Z,Z,Z,Z,Z,Z,Z,Z,Z,Z]
def r22 (t4 : AV) : Fr := ⟨[J,J,J,J,t4,J,J,J,J,J,J,J,J,J,J,J,J,J,J], [], .call⟩
abbrev q22_1 : List Bool := [X,X,Z,Z,Z,X,Z,Z,Z,Z,Z,Z,Z,Z,Z,Z,Z,Z,Z]
def x22_1 (t0 t1 t5 : AV) : Fr := ⟨[t0,t1,J,J,J,t5,J,J,J,J,J,J,J,J,J,J,J,J,J], [], .call⟩
abbrev k22_0 : List Bool := [X,X,Z,Z,Z,X,Z,Z,Z,Z,Z,Z,Z,Z,Z,Z,Z,Z,Z]
def l22_0 : SCode := (.seq (.seq (.region false [
    .m 6 5,
    .m 7 0,
    .o 8 (.len .slc (.t 7)),
    .o 9 (.bin .lss .none (.t 6) (.t 8))])
  (.cond (.t 9)
  .skip
  (.exit 0 q22_0)))
  (.seq (.block 1 q22_1
  (.seq (.region false [
    .m 12 0,
    .m 13 5,
    .o 14 (.indexAddrVs 1 (.t 12) (.t 13)),
    .o 15 (.load false 1 (.t 14)),
    .m 16 1,
    .o 17 (.bin .eql .none (.t 15) (.t 16))])
  (.cond (.t 17)
  (.seq (.region false [
    .m 18 5,
    .m 4 18])
  (.ret q22))
  .skip)))
  (.region false [
    .m 10 5,
    .o 11 (.bin .add .none (.t 10) (.i 1)),
    .m 5 11])))
def s22_0 (t0 t1 t5 : AV) : Fr := ⟨[t0,t1,J,J,J,t5,J,J,J,J,J,J,J,J,J,J,J,J,J], [], .call⟩
def x22_0 : Fr := ⟨[J,J,J,J,J,J,J,J,J,J,J,J,J,J,J,J,J,J,J], [], .call⟩
/-- drachm/drachmref18.Rank -/
def f22 : SFunc := ⟨.closed, 19, [(.tmp 4)],
  (.seq (.region false [
    .o 4 (.mov (.i 0))])
  (.seq (.seq (.region false [
    .o 5 (.mov (.i 0))])
  (.block 0 q22_0
  (.loop k22_0 l22_0)))
  (.seq (.region false [
    .o 4 (.mov (.i (-1)))])
  (.ret q22))))⟩
abbrev q23 : List Bool := [Z,Z,X,Z]
def r23 (t2 : AV) : Fr := ⟨[J,J,t2,J], [], .call⟩
/-- drachm/symbol.All -/
def f23 : SFunc := ⟨.open_, 4, [(.tmp 2)],
  (.seq (.region false [
    .o 1 (.box 1 (.t 0)),
    .o 2 (.mov (.const .nilfn))])
  (.seq (.region false [
    .o 3 (.mkFn 35 [] [(.t 1)]),
    .m 2 3])
  (.ret q23)))⟩
abbrev q24_1 : List Bool := [Z,Z,Z,X,Z,Z,Z,Z,Z,Z,Z,Z,Z,Z,Z]
def x24_1 (t3 : AV) : Fr := ⟨[J,J,J,t3,J,J,J,J,J,J,J,J,J,J,J], [], .call⟩
def a24_0 : SCode := (.region false [
    .m 4 8])
def b24_0 : SCode := (.block 1 q24_1
  (.region false [
    .o 10 (.load false 1 (.t 3)),
    .m 11 4,
    .o 12 (.load false 1 (.t 3)),
    .o 13 (.len .map (.t 12)),
    .n (.mapUpdate .str (.t 10) (.t 11) (.t 13))]))
abbrev q24_0 : List Bool := [Z,Z,Z,X,Z,Z,Z,Z,Z,Z,Z,Z,Z,Z,Z]
def x24_0 (t3 : AV) : Fr := ⟨[J,J,J,t3,J,J,J,J,J,J,J,J,J,J,J], [], .call⟩
abbrev q24 : List Bool := [Z,Z,X,Z,Z,Z,Z,Z,Z,Z,Z,Z,Z,Z,Z]
def r24 (t2 : AV) : Fr := ⟨[J,J,t2,J,J,J,J,J,J,J,J,J,J,J,J], [], .call⟩
/-- drachm/legal.ranks -/
def f24 : SFunc := ⟨.open_, 15, [(.tmp 2)],
  (.seq (.region false [
    .o 2 (.mov (.const .nilmap))])
  (.seq (.region false [
    .o 5 .mkMap,
    .o 3 (.alloc [.nilmap]),
    .n (.store 1 (.t 3) (.t 5))])
  (.seq (.seq (.region false [
    .m 6 0,
    .o 7 (.call (.f 23) [(.t 6)])])
  (.block 0 q24_0
  (.rangeFunc (.t 7) [8, 9] a24_0 b24_0)))
  (.seq (.region false [
    .o 14 (.load false 1 (.t 3)),
    .m 2 14])
  (.ret q24)))))⟩
abbrev q25 : List Bool := [Z,Z,X,X,Z,Z,Z,Z,Z,Z,Z,Z,Z]
def r25 (t2 t3 : AV) : Fr := ⟨[J,J,t2,t3,J,J,J,J,J,J,J,J,J], [], .call⟩
/-- drachm/symbol.open -/
def f25 : SFunc := ⟨.closed, 13, [(.cell 2 true 3), (.tmp 3)],
  (.seq (.region false [
    .o 2 (.alloc [.nils, .nils, (.int .i64 0)]),
    .o 3 (.mov (.b false))])
  (.seq (.region false [
    .o 4 (.call (.f 38) []),
    .m 5 0,
    .o 6 (.build [.nils, .nils, (.int .i64 0)] [(0, 2, (.t 4)), (2, 1, (.t 5))]),
    .m 7 0,
    .o 8 (.bin .geq .none (.t 7) (.i 1)),
    .m 9 8,
    .gm 10 9 true 0,
    .g 11 9 true (.bin .leq .none (.t 10) (.i 5)),
    .o 12 (.pick (.t 9) (.t 11) (.b false)),
    .n (.store 3 (.t 2) (.t 6)),
    .m 3 12])
  (.ret q25)))⟩
abbrev q26 : List Bool := [Z,Z,Z,Z,X,X,X,Z,Z,Z,Z,Z,Z,Z,Z,Z,Z,Z,Z,Z,Z,Z,Z,Z,Z,Z,Z,Z,Z,Z,Z,Z,Z,Z,Z,Z,Z,Z,Z,Z,Z,Z]
def r26 (t4 t5 t6 : AV) : Fr := ⟨[J,J,J,J,t4,t5,t6,J,J,J,J,J,J,J,J,J,J,J,J,J,J,J,J,J,J,J,J,J,J,J,J,J,J,J,J,J,J,J,J,J,J,J], [], .call⟩
abbrev q26_0 : List Bool := [Z,Z,Z,Z,X,X,X,Z,Z,Z,Z,Z,Z,Z,Z,Z,Z,Z,Z,Z,Z,Z,Z,Z,Z,Z,Z,Z,Z,Z,Z,Z,Z,Z,Z,Z,Z,Z,Z,Z,Z,Z]
abbrev q26_1 : List Bool := [Z,Z,Z,Z,X,X,X,Z,X,Z,Z,Z,Z,Z,Z,Z,Z,Z,Z,Z,Z,Z,X,X,X,Z,Z,Z,Z,Z,Z,Z,Z,Z,Z,Z,Z,Z,Z,Z,Z,Z]
def x26_1 (t4 t5 t6 t8 t22 t23 t24 : AV) : Fr := ⟨[J,J,J,J,t4,t5,t6,J,t8,J,J,J,J,J,J,J,J,J,J,J,J,J,t22,t23,t24,J,J,J,J,J,J,J,J,J,J,J,J,J,J,J,J,J], [], .call⟩
abbrev k26_0 : List Bool := [Z,Z,Z,Z,X,X,X,Z,X,Z,Z,Z,Z,Z,Z,Z,Z,Z,Z,Z,Z,Z,X,X,X,Z,Z,Z,Z,Z,Z,Z,Z,Z,Z,Z,Z,Z,Z,Z,Z,Z]
def l26_0 : SCode := (.seq (.region false [
    .o 25 (.bin .lss .none (.t 24) (.t 23))])
  (.seq (.cond (.t 25)
  .skip
  (.exit 0 q26_0))
  (.seq (.block 1 q26_1
  (.seq (.region false [
    .m 26 24,
    .o 27 (.indexAddrVs 6 (.t 22) (.t 24)),
    .o 28 (.load true 6 (.t 27)),
    .o 10 (.alloc [(.str []), (.str []), (.str []), (.str []), (.str []), (.int .i64 0)]),
    .m 9 26,
    .n (.store 6 (.t 10) (.t 28))])
  (.seq (.region false [
    .m 30 8,
    .o 31 (.load true 6 (.t 10)),
    .o 32 (.call (.t 30) [(.t 31)]),
    .m 29 32,
    .o 33 (.extract 0 (.t 29)),
    .o 34 (.extract 1 (.t 29)),
    .m 11 33,
    .m 12 34])
  (.seq (.region false [
    .m 35 12])
  (.cond (.t 35)
  (.seq (.region false [
    .m 36 9,
    .m 37 11,
    .m 4 36,
    .m 5 37,
    .o 6 (.mov (.b true))])
  (.exit 0 q26_0))
  .skip)))))
  (.region false [
    .o 38 (.bin .add .none (.t 24) (.i 1)),
    .m 24 38]))))
def s26_0 (t4 t5 t6 t8 t22 t23 t24 : AV) : Fr := ⟨[J,J,J,J,t4,t5,t6,J,t8,J,J,J,J,J,J,J,J,J,J,J,J,J,t22,t23,t24,J,J,J,J,J,J,J,J,J,J,J,J,J,J,J,J,J], [], .call⟩
def x26_0 (t4 t5 t6 : AV) : Fr := ⟨[J,J,J,J,t4,t5,t6,J,J,J,J,J,J,J,J,J,J,J,J,J,J,J,J,J,J,J,J,J,J,J,J,J,J,J,J,J,J,J,J,J,J,J], [], .call⟩
/-- (drachm/symbol.book).find -/
def f26 : SFunc := ⟨.closed, 42, [(.tmp 4), (.tmp 5), (.tmp 6)],
  (.seq (.region false [
    .o 2 (.box 3 (.t 0)),
    .o 3 (.box 1 (.t 1)),
    .o 4 (.mov (.i 0)),
    .o 5 (.mov (.i 0)),
    .o 6 (.mov (.b false))])
  (.scope (.seq (.region false [
    .o 13 (.load true 3 (.t 2)),
    .o 14 (.load false 1 (.t 3)),
    .o 15 (.call (.f 39) [(.t 13), (.t 14)]),
    .m 7 15])
  (.seq (.seq (.region false [
    .m 16 7,
    .o 17 (.bin .neq .none (.t 16) (.i (-1)))])
  (.cond (.t 17)
  (.seq (.region false [
    .m 18 7,
    .o 4 (.mov (.i (-1))),
    .m 5 18,
    .o 6 (.mov (.b true))])
  (.ret q26))
  .skip))
  (.seq (.region false [
    .o 4 (.mov (.i (-1))),
    .o 5 (.mov (.i (-1)))])
  (.seq (.region false [
    .o 19 (.mkFn 40 [] [(.t 3), (.t 2)]),
    .m 8 19])
  (.seq .skip
  (.seq (.seq (.region false [
    .o 20 (.fieldAddr 0 (.t 2)),
    .o 21 (.fieldAddr 1 (.t 20)),
    .o 22 (.load false 1 (.t 21)),
    .o 23 (.len .slc (.t 22)),
    .o 24 (.mov (.i 0))])
  (.block 0 q26_0
  (.loop k26_0 l26_0)))
  (.seq (.region false [
    .m 39 4,
    .m 40 5,
    .m 41 6,
    .m 4 39,
    .m 5 40,
    .m 6 41])
  (.ret q26))))))))))⟩
abbrev q27_0 : List Bool := [Z,Z,Z,X,Z,Z,Z,Z,Z,Z,Z,Z,Z,Z,Z,Z,Z,Z,Z,Z,Z,Z,Z,Z,Z,Z,Z,Z,Z,Z,Z,Z,Z,Z,Z,Z,Z,Z,Z,Z,Z,Z,Z,Z,Z,Z,Z,Z,Z,Z,Z,Z,Z,Z,Z,Z,Z,Z,Z,Z,Z,Z,Z,Z,Z,Z,Z,Z,Z,Z,Z]
abbrev q27_2 : List Bool := [Z,Z,Z,X,X,Z,X,Z,Z,Z,Z,Z,Z,Z,Z,X,X,X,Z,Z,Z,Z,Z,Z,Z,Z,Z,Z,Z,Z,Z,Z,Z,Z,Z,Z,Z,Z,Z,Z,Z,Z,Z,Z,Z,Z,Z,Z,Z,Z,Z,Z,Z,Z,Z,Z,Z,Z,Z,Z,Z,Z,Z,Z,Z,Z,Z,Z,Z,Z,Z]
abbrev q27_3 : List Bool := [Z,Z,Z,X,X,Z,X,Z,Z,Z,Z,Z,Z,Z,Z,X,X,X,Z,Z,Z,Z,Z,X,X,X,Z,Z,Z,Z,Z,Z,Z,Z,Z,Z,Z,Z,Z,Z,Z,Z,Z,Z,Z,Z,Z,Z,Z,Z,Z,Z,Z,Z,Z,Z,Z,Z,Z,Z,Z,Z,Z,Z,Z,Z,Z,Z,Z,Z,Z]
def x27_3 (t3 t4 t6 t15 t16 t17 t23 t24 t25 : AV) : Fr := ⟨[J,J,J,t3,t4,J,t6,J,J,J,J,J,J,J,J,t15,t16,t17,J,J,J,J,J,t23,t24,t25,J,J,J,J,J,J,J,J,J,J,J,J,J,J,J,J,J,J,J,J,J,J,J,J,J,J,J,J,J,J,J,J,J,J,J,J,J,J,J,J,J,J,J,J,J], [], .call⟩
abbrev k27_0 : List Bool := [Z,Z,Z,X,X,Z,X,Z,Z,Z,Z,Z,Z,Z,Z,X,X,X,Z,Z,Z,Z,Z,X,X,X,Z,Z,Z,Z,Z,Z,Z,Z,Z,Z,Z,Z,Z,Z,Z,Z,Z,Z,Z,Z,Z,Z,Z,Z,Z,Z,Z,Z,Z,Z,Z,Z,Z,Z,Z,Z,Z,Z,Z,Z,Z,Z,Z,Z,Z]
def l27_0 : SCode := (.seq (.region false [
    .o 26 (.bin .lss .none (.t 25) (.t 24))])
  (.seq (.cond (.t 26)
  .skip
  (.exit 2 q27_2))
  (.seq (.block 3 q27_3
  (.seq (.region false [
    .o 27 (.indexAddrVs 1 (.t 23) (.t 25)),
    .o 28 (.load false 1 (.t 27)),
    .m 8 28])
  (.seq (.region false [
    .m 30 3,
    .m 31 6,
    .m 32 8,
    .o 33 (.call (.f 28) [(.t 30), (.t 31), (.t 32)]),
    .m 29 33,
    .o 34 (.extract 0 (.t 29)),
    .o 35 (.extract 1 (.t 29)),
    .m 9 34,
    .m 10 35])
  (.seq (.seq (.region false [
    .m 36 10,
    .o 37 (.un .not (.t 36))])
  (.cond (.t 37)
  (.seq (.region false [
    .m 38 3,
    .o 39 (.call (.f 42) [(.t 38)]),
    .m 9 39])
  (.region false [
    .m 40 3,
    .o 41 (.nilCheck (.t 40)),
    .o 42 (.fieldAddr 0 (.t 41)),
    .o 43 (.load false 1 (.t 42)),
    .m 44 6,
    .o 45 (.indexAddrVs 2 (.t 43) (.t 44)),
    .o 46 (.fieldAddr 0 (.t 45)),
    .o 47 (.load false 1 (.t 46)),
    .m 48 8,
    .m 49 9,
    .n (.mapUpdate .int (.t 47) (.t 48) (.t 49))]))
  .skip))
  (.region false [
    .m 50 9,
    .m 6 50])))))
  (.region false [
    .o 51 (.bin .add .none (.t 25) (.i 1)),
    .m 25 51]))))
def s27_0 (t3 t4 t6 t15 t16 t17 t23 t24 t25 : AV) : Fr := ⟨[J,J,J,t3,t4,J,t6,J,J,J,J,J,J,J,J,t15,t16,t17,J,J,J,J,J,t23,t24,t25,J,J,J,J,J,J,J,J,J,J,J,J,J,J,J,J,J,J,J,J,J,J,J,J,J,J,J,J,J,J,J,J,J,J,J,J,J,J,J,J,J,J,J,J,J], [], .call⟩
def x27_2 (t3 t4 t6 t15 t16 t17 : AV) : Fr := ⟨[J,J,J,t3,t4,J,t6,J,J,J,J,J,J,J,J,t15,t16,t17,J,J,J,J,J,J,J,J,J,J,J,J,J,J,J,J,J,J,J,J,J,J,J,J,J,J,J,J,J,J,J,J,J,J,J,J,J,J,J,J,J,J,J,J,J,J,J,J,J,J,J,J,J], [], .call⟩
abbrev q27_1 : List Bool := [Z,Z,Z,X,Z,Z,Z,Z,Z,Z,Z,Z,Z,Z,Z,X,X,X,Z,Z,Z,Z,Z,Z,Z,Z,Z,Z,Z,Z,Z,Z,Z,Z,Z,Z,Z,Z,Z,Z,Z,Z,Z,Z,Z,Z,Z,Z,Z,Z,Z,Z,Z,Z,Z,Z,Z,Z,Z,Z,Z,Z,Z,Z,Z,Z,Z,Z,Z,Z,Z]
def x27_1 (t3 t15 t16 t17 : AV) : Fr := ⟨[J,J,J,t3,J,J,J,J,J,J,J,J,J,J,J,t15,t16,t17,J,J,J,J,J,J,J,J,J,J,J,J,J,J,J,J,J,J,J,J,J,J,J,J,J,J,J,J,J,J,J,J,J,J,J,J,J,J,J,J,J,J,J,J,J,J,J,J,J,J,J,J,J], [], .call⟩
abbrev k27_1 : List Bool := [Z,Z,Z,X,Z,Z,Z,Z,Z,Z,Z,Z,Z,Z,Z,X,X,X,Z,Z,Z,Z,Z,Z,Z,Z,Z,Z,Z,Z,Z,Z,Z,Z,Z,Z,Z,Z,Z,Z,Z,Z,Z,Z,Z,Z,Z,Z,Z,Z,Z,Z,Z,Z,Z,Z,Z,Z,Z,Z,Z,Z,Z,Z,Z,Z,Z,Z,Z,Z,Z]
def l27_1 : SCode := (.seq (.region false [
    .o 18 (.bin .lss .none (.t 17) (.t 16))])
  (.seq (.cond (.t 18)
  .skip
  (.exit 0 q27_0))
  (.seq (.block 1 q27_1
  (.seq (.region false [
    .m 19 17,
    .o 20 (.indexAddrVs 1 (.t 15) (.t 17)),
    .o 21 (.load false 1 (.t 20)),
    .m 4 19,
    .m 5 21])
  (.seq (.region false [
    .o 6 (.mov (.i 0))])
  (.seq (.seq (.region false [
    .m 22 5,
    .o 23 (.conv .toBytes (.t 22)),
    .o 24 (.len .slc (.t 23)),
    .o 25 (.mov (.i 0))])
  (.block 2 q27_2
  (.loop k27_0 l27_0)))
  (.seq (.region false [
    .m 52 3,
    .o 53 (.nilCheck (.t 52)),
    .o 54 (.fieldAddr 0 (.t 53)),
    .o 55 (.load false 1 (.t 54)),
    .m 56 6,
    .o 57 (.indexAddrVs 2 (.t 55) (.t 56)),
    .o 58 (.fieldAddr 1 (.t 57)),
    .o 59 (.load false 1 (.t 58)),
    .o 60 (.bin .eql .none (.t 59) (.i (-1)))])
  (.cond (.t 60)
  (.region false [
    .m 61 3,
    .o 62 (.nilCheck (.t 61)),
    .o 63 (.fieldAddr 0 (.t 62)),
    .o 64 (.load false 1 (.t 63)),
    .m 65 6,
    .m 66 4,
    .o 67 (.indexAddrVs 2 (.t 64) (.t 65)),
    .o 68 (.fieldAddr 1 (.t 67)),
    .n (.store 1 (.t 68) (.t 66))])
  .skip))))))
  (.region false [
    .o 69 (.bin .add .none (.t 17) (.i 1)),
    .m 17 69]))))
def s27_1 (t3 t15 t16 t17 : AV) : Fr := ⟨[J,J,J,t3,J,J,J,J,J,J,J,J,J,J,J,t15,t16,t17,J,J,J,J,J,J,J,J,J,J,J,J,J,J,J,J,J,J,J,J,J,J,J,J,J,J,J,J,J,J,J,J,J,J,J,J,J,J,J,J,J,J,J,J,J,J,J,J,J,J,J,J,J], [], .call⟩
def x27_0 (t3 : AV) : Fr := ⟨[J,J,J,t3,J,J,J,J,J,J,J,J,J,J,J,J,J,J,J,J,J,J,J,J,J,J,J,J,J,J,J,J,J,J,J,J,J,J,J,J,J,J,J,J,J,J,J,J,J,J,J,J,J,J,J,J,J,J,J,J,J,J,J,J,J,J,J,J,J,J,J], [], .call⟩
abbrev q27 : List Bool := [Z,Z,X,Z,Z,Z,Z,Z,Z,Z,Z,Z,Z,Z,Z,Z,Z,Z,Z,Z,Z,Z,Z,Z,Z,Z,Z,Z,Z,Z,Z,Z,Z,Z,Z,Z,Z,Z,Z,Z,Z,Z,Z,Z,Z,Z,Z,Z,Z,Z,Z,Z,Z,Z,Z,Z,Z,Z,Z,Z,Z,Z,Z,Z,Z,Z,Z,Z,Z,Z,Z]
def r27 (t2 : AV) : Fr := ⟨[J,J,t2,J,J,J,J,J,J,J,J,J,J,J,J,J,J,J,J,J,J,J,J,J,J,J,J,J,J,J,J,J,J,J,J,J,J,J,J,J,J,J,J,J,J,J,J,J,J,J,J,J,J,J,J,J,J,J,J,J,J,J,J,J,J,J,J,J,J,J,J], [], .call⟩
/-- drachm/trie.Build -/
def f27 : SFunc := ⟨.open_, 71, [(.tmp 2)],
  (.seq (.region false [
    .o 2 (.mov (.const .nilp))])
  (.seq (.region false [
    .o 11 (.build [.nils] []),
    .o 12 (.box 1 (.t 11)),
    .m 3 12])
  (.seq (.region false [
    .m 13 3,
    .o 14 (.call (.f 42) [(.t 13)])])
  (.seq (.seq (.region false [
    .m 15 0,
    .o 16 (.len .slc (.t 15)),
    .o 17 (.mov (.i 0))])
  (.block 0 q27_0
  (.loop k27_1 l27_1)))
  (.seq (.region false [
    .m 70 3,
    .m 2 70])
  (.ret q27))))))⟩
abbrev q28 : List Bool := [Z,Z,Z,Z,Z,Z,X,X,Z,Z,Z,Z,Z,Z,Z,Z,Z,Z,Z,Z,Z,Z,Z,Z,Z,Z,Z,Z,Z]
def r28 (t6 t7 : AV) : Fr := ⟨[J,J,J,J,J,J,t6,t7,J,J,J,J,J,J,J,J,J,J,J,J,J,J,J,J,J,J,J,J,J], [], .call⟩
/-- (*drachm/trie.Trie).Child -/
def f28 : SFunc := ⟨.reader, 29, [(.tmp 6), (.tmp 7)],
  (.seq (.region false [
    .o 6 (.mov (.i 0)),
    .o 7 (.mov (.b false))])
  (.seq (.seq (.region false [
    .m 10 0,
    .m 11 1,
    .o 12 (.call (.f 43) [(.t 10), (.t 11)]),
    .o 13 (.un .not (.t 12))])
  (.cond (.t 13)
  (.seq (.region false [
    .o 6 (.mov (.i 0)),
    .o 7 (.mov (.b false))])
  (.ret q28))
  .skip))
  (.seq (.region false [
    .m 15 0,
    .o 16 (.nilCheck (.t 15)),
    .o 17 (.fieldAddr 0 (.t 16)),
    .o 18 (.load false 1 (.t 17)),
    .m 19 1,
    .o 20 (.indexAddrVs 2 (.t 18) (.t 19)),
    .o 21 (.fieldAddr 0 (.t 20)),
    .o 22 (.load false 1 (.t 21)),
    .m 23 2,
    .o 24 (.lookup .int (.int .i64 0) true (.t 22) (.t 23)),
    .m 14 24,
    .o 25 (.extract 0 (.t 14)),
    .o 26 (.extract 1 (.t 14)),
    .m 8 25,
    .m 9 26])
  (.seq (.region false [
    .m 27 8,
    .m 28 9,
    .m 6 27,
    .m 7 28])
  (.ret q28)))))⟩
abbrev q29 : List Bool := [Z,Z,Z,Z,X,X,Z,Z,Z,Z,Z,Z,Z,Z,Z,Z,Z,Z,Z,Z,Z,Z,Z,Z,Z,Z,Z,Z,Z]
def r29 (t4 t5 : AV) : Fr := ⟨[J,J,J,J,t4,t5,J,J,J,J,J,J,J,J,J,J,J,J,J,J,J,J,J,J,J,J,J,J,J], [], .call⟩
/-- (*drachm/trie.Trie).Word -/
def f29 : SFunc := ⟨.reader, 29, [(.tmp 4), (.tmp 5)],
  (.seq (.region false [
    .o 4 (.mov (.i 0)),
    .o 5 (.mov (.b false))])
  (.seq (.seq (.region false [
    .m 6 0,
    .m 7 1,
    .o 8 (.call (.f 43) [(.t 6), (.t 7)]),
    .o 9 (.un .not (.t 8)),
    .m 10 9,
    .gm 11 10 false 0,
    .g 12 10 false (.nilCheck (.t 11)),
    .g 13 10 false (.fieldAddr 0 (.t 12)),
    .g 14 10 false (.load false 1 (.t 13)),
    .gm 15 10 false 1,
    .g 16 10 false (.indexAddrVs 2 (.t 14) (.t 15)),
    .g 17 10 false (.fieldAddr 1 (.t 16)),
    .g 18 10 false (.load false 1 (.t 17)),
    .g 19 10 false (.bin .eql .none (.t 18) (.i (-1))),
    .o 20 (.pick (.t 10) (.b true) (.t 19))])
  (.cond (.t 20)
  (.seq (.region false [
    .o 4 (.mov (.i 0)),
    .o 5 (.mov (.b false))])
  (.ret q29))
  .skip))
  (.seq (.region false [
    .m 21 0,
    .o 22 (.nilCheck (.t 21)),
    .o 23 (.fieldAddr 0 (.t 22)),
    .o 24 (.load false 1 (.t 23)),
    .m 25 1,
    .o 26 (.indexAddrVs 2 (.t 24) (.t 25)),
    .o 27 (.fieldAddr 1 (.t 26)),
    .o 28 (.load false 1 (.t 27)),
    .m 4 28,
    .o 5 (.mov (.b true))])
  (.ret q29))))⟩
abbrev q30 : List Bool := [Z,Z,Z,Z,X,X,X,Z,Z,Z,Z,Z,Z,Z,Z,Z,Z,Z,Z,Z,Z,Z,Z,Z,Z,Z,Z,Z,Z,Z,Z,Z,Z,Z,Z,Z,Z,Z,Z,Z,Z,Z,Z]
def r30 (t4 t5 t6 : AV) : Fr := ⟨[J,J,J,J,t4,t5,t6,J,J,J,J,J,J,J,J,J,J,J,J,J,J,J,J,J,J,J,J,J,J,J,J,J,J,J,J,J,J,J,J,J,J,J,J], [], .call⟩
abbrev q30_0 : List Bool := [X,X,Z,Z,Z,Z,Z,Z,Z,Z,Z,X,Z,Z,Z,Z,Z,Z,Z,Z,Z,Z,Z,Z,Z,Z,Z,Z,Z,Z,Z,Z,Z,Z,Z,Z,Z,Z,Z,Z,Z,Z,Z]
def x30_0 (t0 t1 t11 : AV) : Fr := ⟨[t0,t1,J,J,J,J,J,J,J,J,J,t11,J,J,J,J,J,J,J,J,J,J,J,J,J,J,J,J,J,J,J,J,J,J,J,J,J,J,J,J,J,J,J], [], .call⟩
abbrev q30_2 : List Bool := [Z,X,Z,Z,Z,Z,Z,Z,Z,X,X,Z,Z,Z,Z,Z,Z,Z,Z,Z,Z,Z,Z,Z,Z,Z,Z,Z,Z,Z,Z,Z,Z,Z,Z,Z,Z,Z,Z,Z,Z,Z,Z]
def x30_2 (t1 t9 t10 : AV) : Fr := ⟨[J,t1,J,J,J,J,J,J,J,t9,t10,J,J,J,J,J,J,J,J,J,J,J,J,J,J,J,J,J,J,J,J,J,J,J,J,J,J,J,J,J,J,J,J], [], .call⟩
def a30_0 : SCode := (.region false [
    .o 11 (.alloc [(.int .i64 0), (.int .i64 0), (.str []), (.int .i64 0)]),
    .n (.store 4 (.t 11) (.t 27))])
def b30_0 : SCode := (.block 2 q30_2
  (.seq (.region false [
    .o 28 (.load false 1 (.t 9)),
    .o 29 (.load true 4 (.t 11)),
    .o 30 (.buildSlice 1 [(.int .i64 0), (.int .i64 0), (.str []), (.int .i64 0)] [(0, 4, (.t 29))]),
    .o 31 (.append 4 40 (.t 28) (.t 30)),
    .n (.store 1 (.t 9) (.t 31))])
  (.region true [
    .o 32 (.load false 1 (.t 10)),
    .o 33 (.load true 4 (.t 11)),
    .o 34 (.call (.f 45) [(.t 33)]),
    .o 35 (.bin .add .none (.t 32) (.t 34)),
    .n (.store 1 (.t 10) (.t 35))])))
abbrev q30_1 : List Bool := [Z,X,Z,Z,Z,Z,Z,Z,Z,X,X,Z,Z,Z,Z,Z,Z,Z,Z,Z,Z,Z,Z,Z,Z,Z,Z,Z,Z,Z,Z,Z,Z,Z,Z,Z,Z,Z,Z,Z,Z,Z,Z]
def x30_1 (t1 t9 t10 : AV) : Fr := ⟨[J,t1,J,J,J,J,J,J,J,t9,t10,J,J,J,J,J,J,J,J,J,J,J,J,J,J,J,J,J,J,J,J,J,J,J,J,J,J,J,J,J,J,J,J], [], .call⟩
/-- drachm/lex.Lex -/
def f30 : SFunc := ⟨.closed, 43, [(.tmp 4), (.tmp 5), (.tmp 6)],
  (.seq (.region false [
    .o 4 (.mov (.const .nils)),
    .o 5 (.mov (.i 0)),
    .o 6 (.mov (.i 0))])
  (.seq (.region false [
    .m 13 0,
    .o 14 (.call (.f 44) [(.t 13)]),
    .m 12 14,
    .o 15 (.extract 0 (.t 12)),
    .o 16 (.extract 1 (.t 12)),
    .o 7 (.alloc [(.bool false), (.int .u8 0), (.int .u8 0), (.int .u8 0), (.int .u8 0), (.int .u8 0)]),
    .n (.store 6 (.t 7) (.t 15)),
    .m 8 16])
  (.seq (.block 0 q30_0
  (.seq (.region false [
    .m 18 8,
    .o 19 (.un .not (.t 18)),
    .m 17 19])
  (.cond (.t 17)
  (.seq (.region false [
    .o 4 (.mov (.const .nils)),
    .o 5 (.mov (.i 0)),
    .o 6 (.mov (.i 1))])
  (.ret q30))
  (.seq (.region false [
    .m 21 1,
    .o 22 (.len .str (.t 21)),
    .o 23 (.bin .gtr .none (.t 22) (.i 255)),
    .m 20 23])
  (.cond (.t 20)
  (.seq (.region false [
    .o 4 (.mov (.const .nils)),
    .o 5 (.mov (.i 0)),
    .o 6 (.mov (.i 12))])
  (.ret q30))
  .skip)))))
  (.seq (.region false [
    .o 9 (.alloc [.nils])])
  (.seq (.region false [
    .o 10 (.alloc [(.int .i64 0)]),
    .n (.store 1 (.t 10) (.i 0))])
  (.seq (.seq (.region false [
    .m 24 0,
    .m 25 1,
    .o 26 (.call (.f 32) [(.t 24), (.t 25)])])
  (.block 1 q30_1
  (.rangeFunc (.t 26) [27] a30_0 b30_0)))
  (.seq (.seq (.region false [
    .o 36 (.load false 1 (.t 10)),
    .m 37 1,
    .o 38 (.len .str (.t 37)),
    .o 39 (.bin .lss .none (.t 36) (.t 38))])
  (.cond (.t 39)
  (.seq (.region true [
    .o 40 (.load false 1 (.t 10)),
    .o 4 (.mov (.const .nils)),
    .m 5 40,
    .o 6 (.mov (.i 14))])
  (.ret q30))
  .skip))
  (.seq (.region true [
    .o 41 (.load false 1 (.t 9)),
    .o 42 (.load false 1 (.t 10)),
    .m 4 41,
    .m 5 42,
    .o 6 (.mov (.i 0))])
  (.ret q30)))))))))⟩
abbrev q31_1 : List Bool := [Z,Z,X,Z,Z,Z,Z,Z,Z,Z,Z,Z,Z]
def x31_1 (t2 : AV) : Fr := ⟨[J,J,t2,J,J,J,J,J,J,J,J,J,J], [], .call⟩
def a31_0 : SCode := (.region false [
    .o 5 (.alloc [(.int .i64 0), (.int .i64 0), (.str []), (.int .i64 0)]),
    .n (.store 4 (.t 5) (.t 7))])
def b31_0 : SCode := (.block 1 q31_1
  (.region false [
    .o 8 (.load false 1 (.t 2)),
    .o 9 (.load true 4 (.t 5)),
    .o 10 (.buildSlice 1 [(.int .i64 0), (.int .i64 0), (.str []), (.int .i64 0)] [(0, 4, (.t 9))]),
    .o 11 (.append 4 40 (.t 8) (.t 10)),
    .n (.store 1 (.t 2) (.t 11))]))
abbrev q31_0 : List Bool := [Z,Z,X,Z,Z,Z,Z,Z,Z,Z,Z,Z,Z]
def x31_0 (t2 : AV) : Fr := ⟨[J,J,t2,J,J,J,J,J,J,J,J,J,J], [], .call⟩
abbrev q31 : List Bool := [Z,Z,Z,Z,X,Z,Z,Z,Z,Z,Z,Z,Z]
def r31 (t4 : AV) : Fr := ⟨[J,J,J,J,t4,J,J,J,J,J,J,J,J], [], .call⟩
/-- slices.AppendSeq[[]drachm/api.Token,drachm/api.Token] -/
def f31 : SFunc := ⟨.open_, 13, [(.tmp 4)],
  (.seq (.region false [
    .o 2 (.box 1 (.t 0)),
    .o 4 (.mov (.const .nils))])
  (.seq (.seq (.region false [
    .m 6 1])
  (.block 0 q31_0
  (.rangeFunc (.t 6) [7] a31_0 b31_0)))
  (.seq (.region false [
    .o 12 (.load false 1 (.t 2)),
    .m 4 12])
  (.ret q31))))⟩
abbrev q32 : List Bool := [Z,Z,Z,Z,X,Z]
def r32 (t4 : AV) : Fr := ⟨[J,J,J,J,t4,J], [], .call⟩
/-- drachm/lex.Each -/
def f32 : SFunc := ⟨.open_, 6, [(.tmp 4)],
  (.seq (.region false [
    .o 2 (.box 1 (.t 0)),
    .o 3 (.box 1 (.t 1)),
    .o 4 (.mov (.const .nilfn))])
  (.seq (.region false [
    .o 5 (.mkFn 46 [] [(.t 3), (.t 2)]),
    .m 4 5])
  (.ret q32)))⟩
abbrev q33 : List Bool := [Z,Z,Z,Z,Z,Z,X,Z,Z,Z,Z,Z,Z,Z,Z,Z,Z,Z,Z,Z,Z,Z,Z,Z,Z,Z,Z,Z,Z,Z,Z,Z,Z,Z,Z,Z,Z,Z,Z,Z,Z,Z,Z,Z,Z,Z,Z,Z,Z,Z,Z,Z,Z,Z,Z,Z,Z,Z,Z,Z]
def r33 (t6 : AV) : Fr := ⟨[J,J,J,J,J,J,t6,J,J,J,J,J,J,J,J,J,J,J,J,J,J,J,J,J,J,J,J,J,J,J,J,J,J,J,J,J,J,J,J,J,J,J,J,J,J,J,J,J,J,J,J,J,J,J,J,J,J,J,J,J], [], .call⟩
/-- drachm/parse.Tree -/
def f33 : SFunc := ⟨.closed, 60, [(.cell 6 true 4)],
  (.seq (.region false [
    .o 6 (.alloc [.nils, (.int .i64 0), (.int .i64 0), (.int .i64 0)])])
  (.seq (.region false [
    .m 12 0,
    .o 13 (.call (.f 44) [(.t 12)]),
    .m 11 13,
    .o 14 (.extract 0 (.t 11)),
    .o 15 (.extract 1 (.t 11)),
    .o 7 (.alloc [(.bool false), (.int .u8 0), (.int .u8 0), (.int .u8 0), (.int .u8 0), (.int .u8 0)]),
    .n (.store 6 (.t 7) (.t 14)),
    .m 8 15])
  (.seq (.seq (.region false [
    .m 16 8,
    .o 17 (.un .not (.t 16))])
  (.cond (.t 17)
  (.seq (.region false [
    .o 18 (.build [.nils, (.int .i64 0), (.int .i64 0), (.int .i64 0)] [(1, 1, (.i 1))]),
    .n (.store 4 (.t 6) (.t 18))])
  (.ret q33))
  .skip))
  (.seq (.region false [
    .o 19 (.mkFn 48 [] [(.t 6)]),
    .n (.defer (.t 19) [])])
  (.seq (.region false [
    .m 20 0,
    .m 21 2,
    .o 22 (.load true 6 (.t 7)),
    .m 23 1,
    .o 24 (.build [(.int .i64 0), (.int .i64 0), (.int .i64 0), (.bool false), (.int .u8 0), (.int .u8 0), (.int .u8 0), (.int .u8 0), (.int .u8 0), .nils, .nilp] [(0, 1, (.t 20)), (1, 1, (.t 21)), (3, 6, (.t 22)), (9, 1, (.t 23))]),
    .o 25 (.box 11 (.t 24)),
    .m 9 25])
  (.seq (.region false [
    .m 26 9,
    .o 27 (.call (.f 49) [(.t 26)]),
    .m 10 27])
  (.seq (.region false [
    .m 28 9,
    .m 29 9,
    .o 30 (.nilCheck (.t 29)),
    .o 31 (.fieldAddr 9 (.t 30)),
    .o 32 (.load false 1 (.t 31)),
    .o 33 (.len .slc (.t 32)),
    .o 34 (.bin .eql .none (.t 33) (.i 0)),
    .o 35 (.call (.f 50) [(.t 28), (.t 34)])])
  (.seq (.seq (.region false [
    .m 36 9,
    .o 37 (.nilCheck (.t 36)),
    .o 38 (.fieldAddr 10 (.t 37)),
    .o 39 (.load false 1 (.t 38)),
    .o 40 (.bin .neq .ptr (.t 39) (.const .nilp))])
  (.cond (.t 40)
  (.seq (.region true [
    .m 41 9,
    .o 42 (.nilCheck (.t 41)),
    .o 43 (.fieldAddr 10 (.t 42)),
    .o 44 (.load false 1 (.t 43)),
    .o 45 (.nilCheck (.t 44)),
    .o 46 (.fieldAddr 1 (.t 45)),
    .o 47 (.load false 1 (.t 46)),
    .m 48 9,
    .o 49 (.nilCheck (.t 48)),
    .o 50 (.fieldAddr 10 (.t 49)),
    .o 51 (.load false 1 (.t 50)),
    .o 52 (.nilCheck (.t 51)),
    .o 53 (.fieldAddr 2 (.t 52)),
    .o 54 (.load false 1 (.t 53)),
    .o 55 (.len .str (.t 54)),
    .o 56 (.build [.nils, (.int .i64 0), (.int .i64 0), (.int .i64 0)] [(1, 1, (.i 15)), (2, 1, (.t 47)), (3, 1, (.t 55))]),
    .n (.store 4 (.t 6) (.t 56))])
  (.ret q33))
  .skip))
  (.seq (.region false [
    .m 57 10,
    .m 58 2,
    .o 59 (.build [.nils, (.int .i64 0), (.int .i64 0), (.int .i64 0)] [(0, 1, (.t 57)), (2, 1, (.t 58))]),
    .n (.store 4 (.t 6) (.t 59))])
  (.ret q33))))))))))⟩
abbrev q34_0 : List Bool := [Z,Z,Z,X,Z,Z,Z,Z,Z,Z,Z,Z,Z,Z,Z,Z,Z,Z,Z,Z,Z,Z,Z,Z,Z,Z,Z,Z,Z,Z,Z,Z,Z,Z,Z,Z,Z,Z,Z,Z,Z,Z,Z,Z,Z,Z,Z,Z,Z]
abbrev q34_2 : List Bool := [X,Z,Z,X,X,X,Z,Z,Z,Z,Z,Z,Z,Z,Z,Z,Z,Z,Z,Z,Z,Z,Z,Z,Z,Z,Z,Z,Z,Z,Z,Z,Z,Z,Z,Z,Z,Z,Z,Z,Z,Z,Z,Z,Z,Z,Z,Z,Z]
abbrev q34_3 : List Bool := [X,Z,Z,X,X,X,X,Z,Z,Z,Z,Z,Z,Z,Z,Z,Z,Z,Z,Z,Z,Z,Z,Z,Z,Z,Z,Z,Z,Z,Z,Z,Z,Z,Z,Z,Z,Z,Z,Z,Z,Z,Z,Z,Z,Z,Z,Z,Z]
def x34_3 (t0 t3 t4 t5 t6 : AV) : Fr := ⟨[t0,J,J,t3,t4,t5,t6,J,J,J,J,J,J,J,J,J,J,J,J,J,J,J,J,J,J,J,J,J,J,J,J,J,J,J,J,J,J,J,J,J,J,J,J,J,J,J,J,J,J], [], .call⟩
abbrev k34_0 : List Bool := [X,Z,Z,X,X,X,X,Z,Z,Z,Z,Z,Z,Z,Z,Z,Z,Z,Z,Z,Z,Z,Z,Z,Z,Z,Z,Z,Z,Z,Z,Z,Z,Z,Z,Z,Z,Z,Z,Z,Z,Z,Z,Z,Z,Z,Z,Z,Z]
def l34_0 : SCode := (.seq (.seq (.region false [
    .m 24 6,
    .o 25 (.fieldAddr 0 (.t 4)),
    .o 26 (.load false 1 (.t 25)),
    .o 27 (.len .slc (.t 26)),
    .o 28 (.bin .lss .none (.t 24) (.t 27))])
  (.cond (.t 28)
  .skip
  (.exit 2 q34_2)))
  (.seq (.block 3 q34_3
  (.seq (.region false [
    .o 31 (.load true 2 (.t 4)),
    .m 32 0,
    .m 33 5,
    .m 34 6,
    .o 35 (.call (.f 52) [(.t 31), (.t 32), (.t 33), (.t 34)]),
    .m 7 35])
  (.seq (.region false [
    .m 36 7])
  (.cond (.t 36)
  (.region false [
    .m 37 3,
    .o 38 (.load true 2 (.t 4)),
    .m 39 0,
    .m 40 5,
    .m 41 6,
    .o 42 (.call (.f 53) [(.t 38), (.t 39), (.t 40), (.t 41)]),
    .m 43 5,
    .m 44 6,
    .o 45 (.build [(.str []), (.int .i64 0), (.int .i64 0)] [(0, 1, (.t 42)), (1, 1, (.t 43)), (2, 1, (.t 44))]),
    .o 46 (.buildSlice 1 [(.str []), (.int .i64 0), (.int .i64 0)] [(0, 3, (.t 45))]),
    .o 47 (.append 3 32 (.t 37) (.t 46)),
    .m 3 47])
  .skip))))
  (.region false [
    .m 29 6,
    .o 30 (.bin .add .none (.t 29) (.i 1)),
    .m 6 30])))
def s34_0 (t0 t3 t4 t5 t6 : AV) : Fr := ⟨[t0,J,J,t3,t4,t5,t6,J,J,J,J,J,J,J,J,J,J,J,J,J,J,J,J,J,J,J,J,J,J,J,J,J,J,J,J,J,J,J,J,J,J,J,J,J,J,J,J,J,J], [], .call⟩
def x34_2 (t0 t3 t4 t5 : AV) : Fr := ⟨[t0,J,J,t3,t4,t5,J,J,J,J,J,J,J,J,J,J,J,J,J,J,J,J,J,J,J,J,J,J,J,J,J,J,J,J,J,J,J,J,J,J,J,J,J,J,J,J,J,J,J], [], .call⟩
abbrev q34_1 : List Bool := [X,Z,Z,X,X,X,Z,Z,Z,Z,Z,Z,Z,Z,Z,Z,Z,Z,Z,Z,Z,Z,Z,Z,Z,Z,Z,Z,Z,Z,Z,Z,Z,Z,Z,Z,Z,Z,Z,Z,Z,Z,Z,Z,Z,Z,Z,Z,Z]
def x34_1 (t0 t3 t4 t5 : AV) : Fr := ⟨[t0,J,J,t3,t4,t5,J,J,J,J,J,J,J,J,J,J,J,J,J,J,J,J,J,J,J,J,J,J,J,J,J,J,J,J,J,J,J,J,J,J,J,J,J,J,J,J,J,J,J], [], .call⟩
abbrev k34_1 : List Bool := [X,Z,Z,X,X,X,Z,Z,Z,Z,Z,Z,Z,Z,Z,Z,Z,Z,Z,Z,Z,Z,Z,Z,Z,Z,Z,Z,Z,Z,Z,Z,Z,Z,Z,Z,Z,Z,Z,Z,Z,Z,Z,Z,Z,Z,Z,Z,Z]
def l34_1 : SCode := (.seq (.seq (.region false [
    .m 9 5,
    .o 10 (.fieldAddr 1 (.t 4)),
    .o 11 (.load false 1 (.t 10)),
    .o 12 (.len .slc (.t 11)),
    .o 13 (.bin .lss .none (.t 9) (.t 12)),
    .m 14 13,
    .gm 15 14 true 0,
    .g 16 14 true (.bin .geq .none (.t 15) (.i 1)),
    .o 17 (.pick (.t 14) (.t 16) (.b false)),
    .m 18 17,
    .gm 19 18 true 0,
    .g 20 18 true (.bin .leq .none (.t 19) (.i 5)),
    .o 21 (.pick (.t 18) (.t 20) (.b false))])
  (.cond (.t 21)
  .skip
  (.exit 0 q34_0)))
  (.seq (.block 1 q34_1
  (.seq (.region false [
    .o 6 (.mov (.i 0))])
  (.block 2 q34_2
  (.loop k34_0 l34_0))))
  (.region false [
    .m 22 5,
    .o 23 (.bin .add .none (.t 22) (.i 1)),
    .m 5 23])))
def s34_1 (t0 t3 t4 t5 : AV) : Fr := ⟨[t0,J,J,t3,t4,t5,J,J,J,J,J,J,J,J,J,J,J,J,J,J,J,J,J,J,J,J,J,J,J,J,J,J,J,J,J,J,J,J,J,J,J,J,J,J,J,J,J,J,J], [], .call⟩
def x34_0 (t3 : AV) : Fr := ⟨[J,J,J,t3,J,J,J,J,J,J,J,J,J,J,J,J,J,J,J,J,J,J,J,J,J,J,J,J,J,J,J,J,J,J,J,J,J,J,J,J,J,J,J,J,J,J,J,J,J], [], .call⟩
abbrev q34 : List Bool := [Z,Z,X,Z,Z,Z,Z,Z,Z,Z,Z,Z,Z,Z,Z,Z,Z,Z,Z,Z,Z,Z,Z,Z,Z,Z,Z,Z,Z,Z,Z,Z,Z,Z,Z,Z,Z,Z,Z,Z,Z,Z,Z,Z,Z,Z,Z,Z,Z]
def r34 (t2 : AV) : Fr := ⟨[J,J,t2,J,J,J,J,J,J,J,J,J,J,J,J,J,J,J,J,J,J,J,J,J,J,J,J,J,J,J,J,J,J,J,J,J,J,J,J,J,J,J,J,J,J,J,J,J,J], [], .call⟩
/-- drachm/drachmref10.All -/
def f34 : SFunc := ⟨.closed, 49, [(.tmp 2)],
  (.seq (.region false [
    .o 2 (.mov (.const .nils))])
  (.seq (.region false [
    .o 3 (.mov (.const .nils))])
  (.seq (.region false [
    .o 8 (.call (.f 51) []),
    .o 4 (.alloc [.nils, .nils]),
    .n (.store 2 (.t 4) (.t 8))])
  (.seq (.seq (.region false [
    .o 5 (.mov (.i (-1)))])
  (.block 0 q34_0
  (.loop k34_1 l34_1)))
  (.seq (.region false [
    .m 48 3,
    .m 2 48])
  (.ret q34))))))⟩
abbrev q35_0 : List Bool := [Z,Z,Z,Z,Z,Z,Z,Z,Z,Z,Z,Z,Z,Z,Z,Z,Z,Z,Z,Z,Z,Z,Z,Z,Z,Z,Z,Z,Z,Z,Z,Z,Z,Z,Z,Z,Z,Z,Z,Z,Z,Z,Z,Z,Z,Z,Z,Z]
abbrev q35 : List Bool := [Z,Z,Z,Z,Z,Z,Z,Z,Z,Z,Z,Z,Z,Z,Z,Z,Z,Z,Z,Z,Z,Z,Z,Z,Z,Z,Z,Z,Z,Z,Z,Z,Z,Z,Z,Z,Z,Z,Z,Z,Z,Z,Z,Z,Z,Z,Z,Z]
def r35 : Fr := ⟨[J,J,J,J,J,J,J,J,J,J,J,J,J,J,J,J,J,J,J,J,J,J,J,J,J,J,J,J,J,J,J,J,J,J,J,J,J,J,J,J,J,J,J,J,J,J,J,J], [], .call⟩
abbrev q35_3 : List Bool := [Z,Z,X,X,X,X,X,Z,Z,Z,Z,Z,Z,Z,Z,Z,Z,Z,Z,Z,Z,Z,Z,Z,Z,Z,Z,Z,Z,Z,Z,Z,Z,Z,Z,Z,Z,Z,Z,Z,Z,Z,Z,Z,Z,Z,Z,Z]
def x35_3 (t2 t3 t4 t5 t6 : AV) : Fr := ⟨[J,J,t2,t3,t4,t5,t6,J,J,J,J,J,J,J,J,J,J,J,J,J,J,J,J,J,J,J,J,J,J,J,J,J,J,J,J,J,J,J,J,J,J,J,J,J,J,J,J,J], [], .call⟩
def a35_0 : SCode := (.region false [
    .m 6 28])
def b35_0 : SCode := (.block 3 q35_3
  (.seq (.region false [
    .o 31 (.load true 3 (.t 3)),
    .o 32 (.load false 1 (.t 5)),
    .m 33 6,
    .o 34 (.call (.f 37) [(.t 31), (.t 32), (.t 33)]),
    .m 30 34,
    .o 35 (.extract 0 (.t 30)),
    .o 36 (.extract 1 (.t 30)),
    .m 7 35,
    .m 8 36])
  (.seq (.region false [
    .m 37 8,
    .m 38 37,
    .g 39 38 true (.load false 1 (.t 2)),
    .gm 40 38 true 7,
    .gm 41 38 true 6,
    .g 42 38 true (.load false 1 (.t 5)),
    .g 43 38 true (.build [(.int .i64 0), (.int .i64 0)] [(0, 1, (.t 41)), (1, 1, (.t 42))]),
    .g 44 38 true (.call (.t 39) [(.t 40), (.t 43)]),
    .g 45 38 true (.un .not (.t 44)),
    .o 46 (.pick (.t 38) (.t 45) (.b false))])
  (.cond (.t 46)
  (.ret q35)
  .skip))))
abbrev q35_2 : List Bool := [Z,Z,X,X,X,X,X,Z,Z,Z,Z,Z,Z,Z,Z,Z,Z,Z,Z,Z,Z,Z,Z,Z,Z,Z,Z,Z,Z,Z,Z,Z,Z,Z,Z,Z,Z,Z,Z,Z,Z,Z,Z,Z,Z,Z,Z,Z]
def x35_2 (t2 t3 t4 t5 t6 : AV) : Fr := ⟨[J,J,t2,t3,t4,t5,t6,J,J,J,J,J,J,J,J,J,J,J,J,J,J,J,J,J,J,J,J,J,J,J,J,J,J,J,J,J,J,J,J,J,J,J,J,J,J,J,J,J], [], .call⟩
abbrev q35_1 : List Bool := [Z,Z,X,X,X,X,X,Z,Z,Z,Z,Z,Z,Z,Z,Z,Z,Z,Z,Z,Z,Z,Z,Z,Z,Z,Z,Z,Z,Z,Z,Z,Z,Z,Z,Z,Z,Z,Z,Z,Z,Z,Z,Z,Z,Z,Z,Z]
def x35_1 (t2 t3 t4 t5 t6 : AV) : Fr := ⟨[J,J,t2,t3,t4,t5,t6,J,J,J,J,J,J,J,J,J,J,J,J,J,J,J,J,J,J,J,J,J,J,J,J,J,J,J,J,J,J,J,J,J,J,J,J,J,J,J,J,J], [], .call⟩
abbrev k35_0 : List Bool := [Z,Z,X,X,X,X,X,Z,Z,Z,Z,Z,Z,Z,Z,Z,Z,Z,Z,Z,Z,Z,Z,Z,Z,Z,Z,Z,Z,Z,Z,Z,Z,Z,Z,Z,Z,Z,Z,Z,Z,Z,Z,Z,Z,Z,Z,Z]
def l35_0 : SCode := (.seq (.seq (.region false [
    .m 14 4,
    .m 15 14,
    .g 16 15 true (.load false 1 (.t 5)),
    .g 17 15 true (.fieldAddr 0 (.t 3)),
    .g 18 15 true (.fieldAddr 1 (.t 17)),
    .g 19 15 true (.load false 1 (.t 18)),
    .g 20 15 true (.len .slc (.t 19)),
    .g 21 15 true (.bin .lss .none (.t 16) (.t 20)),
    .o 22 (.pick (.t 15) (.t 21) (.b false))])
  (.cond (.t 22)
  .skip
  (.exit 0 q35_0)))
  (.seq (.block 1 q35_1
  (.seq (.region false [
    .o 25 (.fieldAddr 0 (.t 3)),
    .o 26 (.load true 2 (.t 25)),
    .o 27 (.call (.f 36) [(.t 26)])])
  (.block 2 q35_2
  (.rangeFunc (.t 27) [28, 29] a35_0 b35_0))))
  (.seq (.seq (.region false [
    .o 47 (.load false 1 (.t 5))])
  (.region false [
    .o 5 (.alloc [(.int .i64 0)]),
    .n (.store 1 (.t 5) (.t 47))]))
  (.region false [
    .o 23 (.load false 1 (.t 5)),
    .o 24 (.bin .add .none (.t 23) (.i 1)),
    .n (.store 1 (.t 5) (.t 24))]))))
def s35_0 (t2 t3 t4 t5 t6 : AV) : Fr := ⟨[J,J,t2,t3,t4,t5,t6,J,J,J,J,J,J,J,J,J,J,J,J,J,J,J,J,J,J,J,J,J,J,J,J,J,J,J,J,J,J,J,J,J,J,J,J,J,J,J,J,J], [], .call⟩
def x35_0 : Fr := ⟨[J,J,J,J,J,J,J,J,J,J,J,J,J,J,J,J,J,J,J,J,J,J,J,J,J,J,J,J,J,J,J,J,J,J,J,J,J,J,J,J,J,J,J,J,J,J,J,J], [], .call⟩
/-- drachm/symbol.All$1 -/
def f35 : SFunc := ⟨.open_, 48, [],
  (.seq (.region false [
    .o 2 (.box 1 (.t 0))])
  (.seq (.region false [
    .o 10 (.load false 1 (.t 1)),
    .o 11 (.call (.f 25) [(.t 10)]),
    .m 9 11,
    .o 12 (.extract 0 (.t 9)),
    .o 13 (.extract 1 (.t 9)),
    .o 3 (.alloc [.nils, .nils, (.int .i64 0)]),
    .n (.store 3 (.t 3) (.t 12)),
    .m 4 13])
  (.seq (.region false [
    .o 5 (.alloc [(.int .i64 0)]),
    .n (.store 1 (.t 5) (.i (-1)))])
  (.block 0 q35_0
  (.loop k35_0 l35_0)))))⟩
abbrev q36 : List Bool := [Z,Z,X,Z]
def r36 (t2 : AV) : Fr := ⟨[J,J,t2,J], [], .call⟩
/-- drachm/atoms.Each -/
def f36 : SFunc := ⟨.open_, 4, [(.tmp 2)],
  (.seq (.region false [
    .o 1 (.box 2 (.t 0)),
    .o 2 (.mov (.const .nilfn))])
  (.seq (.region false [
    .o 3 (.mkFn 54 [] [(.t 1)]),
    .m 2 3])
  (.ret q36)))⟩
abbrev q37 : List Bool := [Z,Z,Z,Z,Z,Z,X,X,Z,Z,Z,Z,Z,Z,Z,Z,Z,Z,Z,Z,Z,Z,Z,Z,Z,Z,Z,Z,Z,Z,Z,Z,Z,Z,Z,Z,Z,Z,Z]
def r37 (t6 t7 : AV) : Fr := ⟨[J,J,J,J,J,J,t6,t7,J,J,J,J,J,J,J,J,J,J,J,J,J,J,J,J,J,J,J,J,J,J,J,J,J,J,J,J,J,J,J], [], .call⟩
/-- (drachm/symbol.book).told -/
def f37 : SFunc := ⟨.closed, 39, [(.tmp 6), (.tmp 7)],
  (.seq (.region false [
    .o 3 (.box 3 (.t 0)),
    .o 6 (.mov (.s [])),
    .o 7 (.mov (.b false))])
  (.seq (.region false [
    .o 12 (.load true 3 (.t 3)),
    .m 13 1,
    .m 14 2,
    .o 15 (.call (.f 55) [(.t 12), (.t 13), (.t 14)]),
    .m 8 15])
  (.seq (.region false [
    .o 17 (.load true 3 (.t 3)),
    .m 18 8,
    .o 19 (.call (.f 26) [(.t 17), (.t 18)]),
    .m 16 19,
    .o 20 (.extract 0 (.t 16)),
    .o 21 (.extract 1 (.t 16)),
    .o 22 (.extract 2 (.t 16)),
    .m 9 20,
    .m 10 21,
    .m 11 22])
  (.seq (.region false [
    .m 23 8,
    .m 24 8,
    .o 25 (.bin .neq .none (.t 24) (.s [])),
    .m 26 25,
    .gm 27 26 true 11,
    .o 28 (.pick (.t 26) (.t 27) (.b false)),
    .m 29 28,
    .gm 30 29 true 9,
    .gm 31 29 true 1,
    .g 32 29 true (.bin .eql .none (.t 30) (.t 31)),
    .o 33 (.pick (.t 29) (.t 32) (.b false)),
    .m 34 33,
    .gm 35 34 true 10,
    .gm 36 34 true 2,
    .g 37 34 true (.bin .eql .none (.t 35) (.t 36)),
    .o 38 (.pick (.t 34) (.t 37) (.b false)),
    .m 6 23,
    .m 7 38])
  (.ret q37)))))⟩
abbrev q38_0 : List Bool := [X,X,Z,Z,Z,Z,Z,Z,Z,Z,Z,Z,Z,Z,Z,Z,Z,Z,Z,Z,Z,Z,Z,Z,Z,Z,Z,Z,Z,Z,Z,Z,Z,Z,Z,Z,Z,Z,Z,Z,Z]
abbrev q38_1 : List Bool := [X,X,Z,Z,Z,Z,Z,Z,X,X,Z,Z,Z,Z,Z,Z,Z,Z,Z,Z,Z,Z,Z,Z,Z,Z,Z,Z,Z,Z,Z,Z,Z,Z,Z,Z,Z,Z,Z,Z,Z]
def x38_1 (t0 t1 t8 t9 : AV) : Fr := ⟨[t0,t1,J,J,J,J,J,J,t8,t9,J,J,J,J,J,J,J,J,J,J,J,J,J,J,J,J,J,J,J,J,J,J,J,J,J,J,J,J,J,J,J], [], .call⟩
abbrev k38_0 : List Bool := [X,X,Z,Z,Z,Z,Z,Z,X,X,Z,Z,Z,Z,Z,Z,Z,Z,Z,Z,Z,Z,Z,Z,Z,Z,Z,Z,Z,Z,Z,Z,Z,Z,Z,Z,Z,Z,Z,Z,Z]
def l38_0 : SCode := (.seq (.region false [
    .o 10 (.bin .lss .none (.t 9) (.i 48))])
  (.seq (.cond (.t 10)
  .skip
  (.exit 0 q38_0))
  (.seq (.block 1 q38_1
  (.seq (.region false [
    .m 11 9,
    .o 12 (.indexArr 48 true 11 (.t 8) (.t 9)),
    .o 3 (.alloc [(.str []), (.str []), (.str []), (.str []), (.str []), (.bool false), (.int .i64 0), (.int .i64 0), (.int .i64 0), (.int .i64 0), .nils]),
    .m 2 11,
    .n (.store 11 (.t 3) (.t 12))])
  (.seq (.region true [
    .o 13 (.fieldAddr 0 (.t 3)),
    .o 14 (.load true 5 (.t 13)),
    .o 15 (.fieldAddr 5 (.t 3)),
    .o 16 (.load false 1 (.t 15)),
    .o 17 (.fieldAddr 6 (.t 3)),
    .o 18 (.load false 1 (.t 17)),
    .o 19 (.fieldAddr 7 (.t 3)),
    .o 20 (.load false 1 (.t 19)),
    .o 21 (.fieldAddr 8 (.t 3)),
    .o 22 (.load false 1 (.t 21)),
    .o 23 (.fieldAddr 9 (.t 3)),
    .o 24 (.load false 1 (.t 23)),
    .o 25 (.fieldAddr 10 (.t 3)),
    .o 26 (.load false 1 (.t 25)),
    .o 27 (.call (.f 58) [(.t 26)]),
    .o 28 (.build [(.str []), (.str []), (.str []), (.str []), (.str []), (.bool false), (.int .i64 0), (.int .i64 0), (.int .i64 0), (.int .i64 0), (.int .i64 0), .nils] [(0, 5, (.t 14)), (5, 1, (.t 16)), (6, 1, (.t 18)), (7, 1, (.i (-1))), (8, 1, (.t 20)), (9, 1, (.t 22)), (10, 1, (.t 24)), (11, 1, (.t 27))]),
    .o 4 (.alloc [(.str []), (.str []), (.str []), (.str []), (.str []), (.bool false), (.int .i64 0), (.int .i64 0), (.int .i64 0), (.int .i64 0), (.int .i64 0), .nils]),
    .n (.store 12 (.t 4) (.t 28))])
  (.seq (.seq (.region false [
    .m 29 2,
    .o 30 (.bin .lss .none (.t 29) (.i 7))])
  (.cond (.t 30)
  (.region false [
    .m 31 2,
    .o 32 (.fieldAddr 7 (.t 4)),
    .n (.store 1 (.t 32) (.t 31))])
  .skip))
  (.region false [
    .o 33 (.fieldAddr 0 (.t 1)),
    .o 34 (.load false 1 (.t 33)),
    .o 35 (.load true 12 (.t 4)),
    .o 36 (.buildSlice 1 [(.str []), (.str []), (.str []), (.str []), (.str []), (.bool false), (.int .i64 0), (.int .i64 0), (.int .i64 0), (.int .i64 0), (.int .i64 0), .nils] [(0, 12, (.t 35))]),
    .o 37 (.append 12 152 (.t 34) (.t 36)),
    .o 38 (.fieldAddr 0 (.t 1)),
    .n (.store 1 (.t 38) (.t 37))])))))
  (.region false [
    .o 39 (.bin .add .none (.t 9) (.i 1)),
    .m 9 39]))))
def s38_0 (t0 t1 t8 t9 : AV) : Fr := ⟨[t0,t1,J,J,J,J,J,J,t8,t9,J,J,J,J,J,J,J,J,J,J,J,J,J,J,J,J,J,J,J,J,J,J,J,J,J,J,J,J,J,J,J], [], .call⟩
def x38_0 (t0 t1 : AV) : Fr := ⟨[t0,t1,J,J,J,J,J,J,J,J,J,J,J,J,J,J,J,J,J,J,J,J,J,J,J,J,J,J,J,J,J,J,J,J,J,J,J,J,J,J,J], [], .call⟩
abbrev q38 : List Bool := [X,Z,Z,Z,Z,Z,Z,Z,Z,Z,Z,Z,Z,Z,Z,Z,Z,Z,Z,Z,Z,Z,Z,Z,Z,Z,Z,Z,Z,Z,Z,Z,Z,Z,Z,Z,Z,Z,Z,Z,Z]
def r38 (t0 : AV) : Fr := ⟨[t0,J,J,J,J,J,J,J,J,J,J,J,J,J,J,J,J,J,J,J,J,J,J,J,J,J,J,J,J,J,J,J,J,J,J,J,J,J,J,J,J], [], .call⟩
/-- drachm/atoms.Table -/
def f38 : SFunc := ⟨.closed, 41, [(.cell 0 true 2)],
  (.seq (.region false [
    .o 0 (.alloc [.nils, .nils])])
  (.seq (.region false [
    .o 5 (.sliceArr 20 6 (.glob 0) none none),
    .o 6 (.call (.f 56) [(.t 5)]),
    .o 7 (.build [.nils, .nils] [(1, 1, (.t 6))]),
    .o 1 (.alloc [.nils, .nils]),
    .n (.store 2 (.t 1) (.t 7))])
  (.seq (.seq (.region false [
    .o 8 (.call (.f 57) []),
    .o 9 (.mov (.i 0))])
  (.block 0 q38_0
  (.loop k38_0 l38_0)))
  (.seq (.region false [
    .o 40 (.load true 2 (.t 1)),
    .n (.store 2 (.t 0) (.t 40))])
  (.ret q38)))))⟩
abbrev q39 : List Bool := [Z,Z,Z,Z,X,Z,Z,Z,Z,Z,Z,Z]
def r39 (t4 : AV) : Fr := ⟨[J,J,J,J,t4,J,J,J,J,J,J,J], [], .call⟩
/-- (drachm/symbol.book).atom -/
def f39 : SFunc := ⟨.closed, 12, [(.tmp 4)],
  (.seq (.region false [
    .o 2 (.box 3 (.t 0)),
    .o 3 (.box 1 (.t 1)),
    .o 4 (.mov (.i 0))])
  (.seq (.seq (.region false [
    .o 5 (.load false 1 (.t 3)),
    .o 6 (.bin .eql .none (.t 5) (.s []))])
  (.cond (.t 6)
  (.seq (.region false [
    .o 4 (.mov (.i (-1)))])
  (.ret q39))
  .skip))
  (.seq (.region false [
    .o 7 (.fieldAddr 0 (.t 2)),
    .o 8 (.fieldAddr 0 (.t 7)),
    .o 9 (.load false 1 (.t 8)),
    .o 10 (.mkFn 60 [] [(.t 2), (.t 3)]),
    .o 11 (.call (.f 59) [(.t 9), (.t 10)]),
    .m 4 11])
  (.ret q39))))⟩
abbrev q40 : List Bool := [Z,Z,Z,Z,X,X,Z,Z,Z,Z,Z,Z,Z,Z,Z,Z,Z,Z,Z,Z,Z,Z,Z,Z,Z,Z,Z,Z,Z,Z,Z,Z,Z,Z,Z,Z,Z,Z,Z,Z,Z,Z]
def r40 (t4 t5 : AV) : Fr := ⟨[J,J,J,J,t4,t5,J,J,J,J,J,J,J,J,J,J,J,J,J,J,J,J,J,J,J,J,J,J,J,J,J,J,J,J,J,J,J,J,J,J,J,J], [], .call⟩
/-- (drachm/symbol.book).find$1 -/
def f40 : SFunc := ⟨.reader, 42, [(.tmp 4), (.tmp 5)],
  (.seq (.region false [
    .o 3 (.box 6 (.t 0)),
    .o 4 (.mov (.i 0)),
    .o 5 (.mov (.b false))])
  (.seq (.region true [
    .o 10 (.load false 1 (.t 1)),
    .o 11 (.fieldAddr 2 (.t 2)),
    .o 12 (.load false 1 (.t 11)),
    .o 13 (.bin .sub .none (.t 12) (.i 1)),
    .o 14 (.fieldAddr 0 (.t 3)),
    .o 15 (.indexAddrArr 5 1 (.t 14) (.t 13)),
    .o 16 (.load false 1 (.t 15)),
    .o 17 (.call (.f 41) [(.t 10), (.t 16)]),
    .m 9 17,
    .o 18 (.extract 0 (.t 9)),
    .o 19 (.extract 1 (.t 9)),
    .m 6 18,
    .m 7 19])
  (.seq (.seq (.region false [
    .m 20 7,
    .o 21 (.un .not (.t 20)),
    .m 22 21,
    .gm 23 22 false 6,
    .g 24 22 false (.load false 1 (.t 1)),
    .g 25 22 false (.bin .eql .none (.t 23) (.t 24)),
    .o 26 (.pick (.t 22) (.b true) (.t 25))])
  (.cond (.t 26)
  (.seq (.region false [
    .o 4 (.mov (.i (-1))),
    .o 5 (.mov (.b false))])
  (.ret q40))
  .skip))
  (.seq (.region false [
    .o 27 (.load true 3 (.t 2)),
    .m 28 6,
    .o 29 (.call (.f 39) [(.t 27), (.t 28)]),
    .m 8 29])
  (.seq (.region true [
    .m 30 8,
    .m 31 8,
    .o 32 (.bin .neq .none (.t 31) (.i (-1))),
    .m 33 32,
    .g 34 33 true (.fieldAddr 0 (.t 2)),
    .g 35 33 true (.fieldAddr 0 (.t 34)),
    .g 36 33 true (.load false 1 (.t 35)),
    .gm 37 33 true 8,
    .g 38 33 true (.indexAddrVs 12 (.t 36) (.t 37)),
    .g 39 33 true (.fieldAddr 5 (.t 38)),
    .g 40 33 true (.load false 1 (.t 39)),
    .o 41 (.pick (.t 33) (.t 40) (.b false)),
    .m 4 30,
    .m 5 41])
  (.ret q40))))))⟩
abbrev q41 : List Bool := [Z,Z,Z,Z,X,X,Z,Z,Z,Z,Z]
def r41 (t4 t5 : AV) : Fr := ⟨[J,J,J,J,t4,t5,J,J,J,J,J], [], .call⟩
/-- strings.CutPrefix -/
def f41 : SFunc := ⟨.closed, 11, [(.tmp 4), (.tmp 5)],
  (.seq (.region false [
    .o 4 (.mov (.s [])),
    .o 5 (.mov (.b false))])
  (.seq (.region false [
    .m 6 0,
    .m 7 1,
    .o 8 (.call (.f 61) [(.t 6), (.t 7)]),
    .o 9 (.extract 0 (.t 8)),
    .o 10 (.extract 1 (.t 8)),
    .m 4 9,
    .m 5 10])
  (.ret q41)))⟩
abbrev q42 : List Bool := [Z,Z,X,Z,Z,Z,Z,Z,Z,Z,Z,Z,Z,Z,Z,Z,Z,Z,Z,Z]
def r42 (t2 : AV) : Fr := ⟨[J,J,t2,J,J,J,J,J,J,J,J,J,J,J,J,J,J,J,J,J], [], .call⟩
/-- (*drachm/trie.Trie).grow -/
def f42 : SFunc := ⟨.open_, 20, [(.tmp 2)],
  (.seq (.region false [
    .o 2 (.mov (.i 0))])
  (.seq (.region false [
    .m 3 0,
    .m 4 0,
    .o 5 (.nilCheck (.t 4)),
    .o 6 (.fieldAddr 0 (.t 5)),
    .o 7 (.load false 1 (.t 6)),
    .o 8 .mkMap,
    .o 9 (.build [.nilmap, (.int .i64 0)] [(0, 1, (.t 8)), (1, 1, (.i (-1)))]),
    .o 10 (.buildSlice 1 [.nilmap, (.int .i64 0)] [(0, 2, (.t 9))]),
    .o 11 (.append 2 16 (.t 7) (.t 10)),
    .o 12 (.nilCheck (.t 3)),
    .o 13 (.fieldAddr 0 (.t 12)),
    .n (.store 1 (.t 13) (.t 11))])
  (.seq (.region false [
    .m 14 0,
    .o 15 (.nilCheck (.t 14)),
    .o 16 (.fieldAddr 0 (.t 15)),
    .o 17 (.load false 1 (.t 16)),
    .o 18 (.len .slc (.t 17)),
    .o 19 (.bin .sub .none (.t 18) (.i 1)),
    .m 2 19])
  (.ret q42))))⟩
abbrev q43 : List Bool := [Z,Z,Z,Z,X,Z,Z,Z,Z,Z,Z,Z,Z,Z,Z,Z,Z,Z,Z,Z]
def r43 (t4 : AV) : Fr := ⟨[J,J,J,J,t4,J,J,J,J,J,J,J,J,J,J,J,J,J,J,J], [], .call⟩
/-- (*drachm/trie.Trie).is -/
def f43 : SFunc := ⟨.reader, 20, [(.tmp 4)],
  (.seq (.region false [
    .o 4 (.mov (.b false))])
  (.seq (.region false [
    .m 5 0,
    .o 6 (.bin .neq .ptr (.t 5) (.const .nilp)),
    .m 7 6,
    .gm 8 7 true 1,
    .g 9 7 true (.bin .geq .none (.t 8) (.i 0)),
    .o 10 (.pick (.t 7) (.t 9) (.b false)),
    .m 11 10,
    .gm 12 11 true 1,
    .gm 13 11 true 0,
    .g 14 11 true (.nilCheck (.t 13)),
    .g 15 11 true (.fieldAddr 0 (.t 14)),
    .g 16 11 true (.load false 1 (.t 15)),
    .g 17 11 true (.len .slc (.t 16)),
    .g 18 11 true (.bin .lss .none (.t 12) (.t 17)),
    .o 19 (.pick (.t 11) (.t 18) (.b false)),
    .m 4 19])
  (.ret q43)))⟩
abbrev q44 : List Bool := [Z,Z,X,X,Z,Z,Z,Z,Z,Z,Z,Z,Z,Z,Z]
def r44 (t2 t3 : AV) : Fr := ⟨[J,J,t2,t3,J,J,J,J,J,J,J,J,J,J,J], [], .call⟩
/-- drachm/style.Of -/
def f44 : SFunc := ⟨.closed, 15, [(.cell 2 true 6), (.tmp 3)],
  (.seq (.region false [
    .o 2 (.alloc [(.bool false), (.int .u8 0), (.int .u8 0), (.int .u8 0), (.int .u8 0), (.int .u8 0)]),
    .o 3 (.mov (.b false))])
  (.seq (.seq (.region false [
    .m 4 0,
    .o 5 (.bin .lss .none (.t 4) (.i 1)),
    .m 6 5,
    .gm 7 6 false 0,
    .g 8 6 false (.bin .gtr .none (.t 7) (.i 5)),
    .o 9 (.pick (.t 6) (.b true) (.t 8))])
  (.cond (.t 9)
  (.seq (.region false [
    .o 10 (.build [(.bool false), (.int .u8 0), (.int .u8 0), (.int .u8 0), (.int .u8 0), (.int .u8 0)] []),
    .n (.store 6 (.t 2) (.t 10)),
    .o 3 (.mov (.b false))])
  (.ret q44))
  .skip))
  (.seq (.region false [
    .m 11 0,
    .o 12 (.bin .sub .none (.t 11) (.i 1)),
    .o 13 (.indexAddrArr 5 6 (.glob 1) (.t 12)),
    .o 14 (.load true 6 (.t 13)),
    .n (.store 6 (.t 2) (.t 14)),
    .o 3 (.mov (.b true))])
  (.ret q44))))⟩
abbrev q45 : List Bool := [Z,Z,X,Z,Z,Z,Z,Z,Z,Z,Z,Z,Z]
def r45 (t2 : AV) : Fr := ⟨[J,J,t2,J,J,J,J,J,J,J,J,J,J], [], .call⟩
/-- drachm/lex.size -/
def f45 : SFunc := ⟨.closed, 13, [(.tmp 2)],
  (.seq (.region false [
    .o 1 (.box 4 (.t 0)),
    .o 2 (.mov (.i 0))])
  (.seq (.seq (.region false [
    .o 3 (.fieldAddr 0 (.t 1)),
    .o 4 (.load false 1 (.t 3)),
    .o 5 (.bin .eql .none (.t 4) (.i 9))])
  (.cond (.t 5)
  (.seq (.region false [
    .o 6 (.fieldAddr 2 (.t 1)),
    .o 7 (.load false 1 (.t 6)),
    .o 8 (.len .str (.t 7)),
    .o 9 (.bin .add .none (.t 8) (.i 2)),
    .m 2 9])
  (.ret q45))
  .skip))
  (.seq (.region false [
    .o 10 (.fieldAddr 2 (.t 1)),
    .o 11 (.load false 1 (.t 10)),
    .o 12 (.len .str (.t 11)),
    .m 2 12])
  (.ret q45))))⟩
abbrev q46_0 : List Bool := [Z,Z,Z,Z,Z,Z,Z,Z,Z,Z,Z,Z,Z,Z,Z,Z,Z,Z,Z,Z,Z,Z,Z,Z,Z,Z,Z,Z,Z,Z,Z,Z]
abbrev q46 : List Bool := [Z,Z,Z,Z,Z,Z,Z,Z,Z,Z,Z,Z,Z,Z,Z,Z,Z,Z,Z,Z,Z,Z,Z,Z,Z,Z,Z,Z,Z,Z,Z,Z]
def r46 : Fr := ⟨[J,J,J,J,J,J,J,J,J,J,J,J,J,J,J,J,J,J,J,J,J,J,J,J,J,J,J,J,J,J,J,J], [], .call⟩
abbrev q46_1 : List Bool := [X,X,X,Z,X,Z,Z,Z,Z,Z,Z,Z,Z,Z,Z,Z,Z,Z,Z,Z,Z,Z,Z,Z,Z,Z,Z,Z,Z,Z,Z,Z]
def x46_1 (t0 t1 t2 t4 : AV) : Fr := ⟨[t0,t1,t2,J,t4,J,J,J,J,J,J,J,J,J,J,J,J,J,J,J,J,J,J,J,J,J,J,J,J,J,J,J], [], .call⟩
abbrev k46_0 : List Bool := [X,X,X,Z,X,Z,Z,Z,Z,Z,Z,Z,Z,Z,Z,Z,Z,Z,Z,Z,Z,Z,Z,Z,Z,Z,Z,Z,Z,Z,Z,Z]
def l46_0 : SCode := (.seq (.seq (.region false [
    .m 7 4,
    .o 8 (.load false 1 (.t 1)),
    .o 9 (.len .str (.t 8)),
    .o 10 (.bin .lss .none (.t 7) (.t 9))])
  (.cond (.t 10)
  .skip
  (.exit 0 q46_0)))
  (.block 1 q46_1
  (.seq (.region true [
    .o 12 (.load false 1 (.t 2)),
    .o 13 (.load false 1 (.t 1)),
    .m 14 4,
    .o 15 (.sliceStr (.t 13) (some (.t 14)) none),
    .o 16 (.call (.f 47) [(.t 12), (.t 15)]),
    .m 11 16,
    .o 17 (.extract 0 (.t 11)),
    .o 18 (.extract 1 (.t 11)),
    .o 5 (.alloc [(.int .i64 0), (.int .i64 0), (.str []), (.int .i64 0)]),
    .n (.store 4 (.t 5) (.t 17)),
    .m 6 18])
  (.seq (.region false [
    .m 19 4,
    .o 20 (.fieldAddr 1 (.t 5)),
    .n (.store 1 (.t 20) (.t 19))])
  (.seq (.seq (.region false [
    .m 21 6,
    .o 22 (.bin .eql .none (.t 21) (.i 0)),
    .m 23 22,
    .gm 24 23 false 0,
    .g 25 23 false (.load true 4 (.t 5)),
    .g 26 23 false (.call (.t 24) [(.t 25)]),
    .g 27 23 false (.un .not (.t 26)),
    .o 28 (.pick (.t 23) (.b true) (.t 27))])
  (.cond (.t 28)
  (.ret q46)
  .skip))
  (.region false [
    .m 29 4,
    .m 30 6,
    .o 31 (.bin .add .none (.t 29) (.t 30)),
    .m 4 31]))))))
def s46_0 (t0 t1 t2 t4 : AV) : Fr := ⟨[t0,t1,t2,J,t4,J,J,J,J,J,J,J,J,J,J,J,J,J,J,J,J,J,J,J,J,J,J,J,J,J,J,J], [], .call⟩
def x46_0 : Fr := ⟨[J,J,J,J,J,J,J,J,J,J,J,J,J,J,J,J,J,J,J,J,J,J,J,J,J,J,J,J,J,J,J,J], [], .call⟩
/-- drachm/lex.Each$1 -/
def f46 : SFunc := ⟨.open_, 32, [],
  (.seq (.region false [
    .o 4 (.mov (.i 0))])
  (.block 0 q46_0
  (.loop k46_0 l46_0)))⟩
abbrev q47 : List Bool := [Z,Z,Z,Z,X,X,Z,Z,Z,Z,Z,Z,Z,Z,Z,Z,Z,Z,Z,Z,Z,Z,Z,Z,Z,Z,Z,Z,Z,Z,Z,Z,Z,Z,Z,Z,Z,Z,Z,Z,Z,Z,Z,Z,Z,Z,Z,Z,Z,Z,Z,Z,Z,Z,Z,Z,Z,Z,Z,Z,Z,Z,Z,Z,Z,Z,Z,Z,Z,Z,Z,Z,Z,Z,Z,Z,Z,Z,Z,Z,Z,Z,Z,Z,Z,Z,Z,Z,Z,Z]
def r47 (t4 t5 : AV) : Fr := ⟨[J,J,J,J,t4,t5,J,J,J,J,J,J,J,J,J,J,J,J,J,J,J,J,J,J,J,J,J,J,J,J,J,J,J,J,J,J,J,J,J,J,J,J,J,J,J,J,J,J,J,J,J,J,J,J,J,J,J,J,J,J,J,J,J,J,J,J,J,J,J,J,J,J,J,J,J,J,J,J,J,J,J,J,J,J,J,J,J,J,J,J], [], .call⟩
abbrev q47_0 : List Bool := [Z,X,Z,Z,X,Z,X,Z,Z,Z,Z,Z,Z,Z,Z,Z,Z,Z,Z,Z,Z,Z,Z,Z,Z,Z,Z,Z,Z,Z,Z,Z,Z,Z,Z,Z,Z,Z,Z,Z,Z,Z,Z,Z,Z,Z,Z,Z,Z,Z,Z,Z,Z,Z,Z,Z,Z,Z,Z,Z,Z,Z,Z,Z,Z,Z,Z,Z,Z,Z,Z,Z,Z,Z,Z,Z,Z,Z,Z,Z,Z,Z,Z,Z,Z,Z,Z,Z,Z,Z]
def x47_0 (t1 t4 t6 : AV) : Fr := ⟨[J,t1,J,J,t4,J,t6,J,J,J,J,J,J,J,J,J,J,J,J,J,J,J,J,J,J,J,J,J,J,J,J,J,J,J,J,J,J,J,J,J,J,J,J,J,J,J,J,J,J,J,J,J,J,J,J,J,J,J,J,J,J,J,J,J,J,J,J,J,J,J,J,J,J,J,J,J,J,J,J,J,J,J,J,J,J,J,J,J,J,J], [], .call⟩
/-- drachm/lex.next -/
def f47 : SFunc := ⟨.closed, 90, [(.cell 4 true 4), (.tmp 5)],
  (.seq (.region false [
    .o 4 (.alloc [(.int .i64 0), (.int .i64 0), (.str []), (.int .i64 0)]),
    .o 5 (.mov (.i 0))])
  (.seq (.region false [
    .m 14 0,
    .m 15 1,
    .o 16 (.indexStr (.t 15) (.i 0)),
    .o 17 (.call (.f 62) [(.t 14), (.t 16)]),
    .m 6 17])
  (.seq (.seq (.region false [
    .m 18 6])
  (.block 0 q47_0
  (.seq (.seq (.region false [
    .o 20 (.bin .eql .none (.t 18) (.i 0)),
    .m 19 20])
  (.cond (.t 19)
  .skip
  (.region false [
    .o 21 (.bin .eql .none (.t 18) (.i 10)),
    .m 19 21])))
  (.cond (.t 19)
  (.seq (.region false [
    .o 22 (.build [(.int .i64 0), (.int .i64 0), (.str []), (.int .i64 0)] []),
    .n (.store 4 (.t 4) (.t 22)),
    .o 5 (.mov (.i 0))])
  (.ret q47))
  (.seq (.region false [
    .o 24 (.bin .eql .none (.t 18) (.i 1)),
    .m 23 24])
  (.cond (.t 23)
  (.seq (.region false [
    .m 25 0,
    .m 26 1,
    .m 27 6,
    .o 28 (.call (.f 63) [(.t 25), (.t 26), (.t 27)]),
    .m 7 28])
  (.seq (.region false [
    .m 29 0,
    .m 30 1,
    .m 31 7,
    .o 32 (.sliceStr (.t 30) none (some (.t 31))),
    .o 33 (.call (.f 64) [(.t 29), (.t 32)]),
    .o 34 (.build [(.int .i64 0), (.int .i64 0), (.str []), (.int .i64 0)] [(0, 1, (.i 1)), (2, 1, (.t 33))]),
    .m 35 7,
    .n (.store 4 (.t 4) (.t 34)),
    .m 5 35])
  (.ret q47)))
  (.seq (.region false [
    .o 37 (.bin .eql .none (.t 18) (.i 2)),
    .m 36 37])
  (.cond (.t 36)
  (.seq (.region false [
    .m 38 0,
    .m 39 1,
    .m 40 6,
    .o 41 (.call (.f 63) [(.t 38), (.t 39), (.t 40)]),
    .m 8 41])
  (.seq (.region false [
    .m 43 1,
    .m 44 8,
    .o 45 (.sliceStr (.t 43) none (some (.t 44))),
    .o 46 (.call (.f 65) [(.t 45), (.i 10), (.i 64)]),
    .m 42 46,
    .o 47 (.extract 0 (.t 42)),
    .o 48 (.extract 1 (.t 42)),
    .m 9 47,
    .m 10 48])
  (.seq (.seq (.region false [
    .m 49 10,
    .o 50 (.bin .neq .ifc (.t 49) (.const .niliface))])
  (.cond (.t 50)
  (.seq (.region false [
    .o 51 (.build [(.int .i64 0), (.int .i64 0), (.str []), (.int .i64 0)] []),
    .n (.store 4 (.t 4) (.t 51)),
    .o 5 (.mov (.i 0))])
  (.ret q47))
  .skip))
  (.seq (.region false [
    .m 52 1,
    .m 53 8,
    .o 54 (.sliceStr (.t 52) none (some (.t 53))),
    .m 55 9,
    .o 56 (.build [(.int .i64 0), (.int .i64 0), (.str []), (.int .i64 0)] [(0, 1, (.i 2)), (2, 1, (.t 54)), (3, 1, (.t 55))]),
    .m 57 8,
    .n (.store 4 (.t 4) (.t 56)),
    .m 5 57])
  (.ret q47)))))
  (.seq (.region false [
    .o 59 (.bin .eql .none (.t 18) (.i 9)),
    .m 58 59])
  (.cond (.t 58)
  (.seq (.region false [
    .m 61 0,
    .o 62 (.call (.f 44) [(.t 61)]),
    .m 60 62,
    .o 63 (.extract 0 (.t 60)),
    .o 64 (.extract 1 (.t 60)),
    .o 11 (.alloc [(.bool false), (.int .u8 0), (.int .u8 0), (.int .u8 0), (.int .u8 0), (.int .u8 0)]),
    .n (.store 6 (.t 11) (.t 63)),
    .m 12 64])
  (.seq (.region false [
    .m 65 1,
    .o 66 (.fieldAddr 5 (.t 11)),
    .o 67 (.load false 1 (.t 66)),
    .o 68 (.call (.f 66) [(.t 65), (.t 67)]),
    .m 13 68])
  (.seq (.seq (.region false [
    .m 69 13,
    .o 70 (.bin .lss .none (.t 69) (.i 0)),
    .m 71 70,
    .gm 72 71 false 0,
    .gm 73 71 false 1,
    .gm 74 71 false 13,
    .g 75 71 false (.sliceStr (.t 73) (some (.i 1)) (some (.t 74))),
    .g 76 71 false (.call (.f 67) [(.t 72), (.t 75)]),
    .g 77 71 false (.un .not (.t 76)),
    .o 78 (.pick (.t 71) (.b true) (.t 77))])
  (.cond (.t 78)
  (.seq (.region false [
    .o 79 (.build [(.int .i64 0), (.int .i64 0), (.str []), (.int .i64 0)] []),
    .n (.store 4 (.t 4) (.t 79)),
    .o 5 (.mov (.i 0))])
  (.ret q47))
  .skip))
  (.seq (.region false [
    .m 80 1,
    .m 81 13,
    .o 82 (.sliceStr (.t 80) (some (.i 1)) (some (.t 81))),
    .o 83 (.build [(.int .i64 0), (.int .i64 0), (.str []), (.int .i64 0)] [(0, 1, (.i 9)), (2, 1, (.t 82))]),
    .m 84 13,
    .o 85 (.bin .add .none (.t 84) (.i 1)),
    .n (.store 4 (.t 4) (.t 83)),
    .m 5 85])
  (.ret q47)))))
  .skip))))))))))
  (.seq (.region false [
    .m 86 6,
    .m 87 1,
    .o 88 (.sliceStr (.t 87) none (some (.i 1))),
    .o 89 (.build [(.int .i64 0), (.int .i64 0), (.str []), (.int .i64 0)] [(0, 1, (.t 86)), (2, 1, (.t 88))]),
    .n (.store 4 (.t 4) (.t 89)),
    .o 5 (.mov (.i 1))])
  (.ret q47)))))⟩
/-- drachm/parse.Tree$1 -/
def f48 : SFunc := ⟨.open_, 14, [],
  (.seq (.region false [
    .o 4 .recover,
    .o 5 (.typeAssert 0 (.agg [(.int .i64 0), (.int .i64 0)]) true (.t 4)),
    .m 3 5,
    .o 6 (.extract 0 (.t 3)),
    .o 7 (.extract 1 (.t 3)),
    .o 1 (.alloc [(.int .i64 0), (.int .i64 0)]),
    .n (.store 2 (.t 1) (.t 6)),
    .m 2 7])
  (.seq (.region false [
    .m 8 2])
  (.cond (.t 8)
  (.region false [
    .o 9 (.fieldAddr 0 (.t 1)),
    .o 10 (.load false 1 (.t 9)),
    .o 11 (.fieldAddr 1 (.t 1)),
    .o 12 (.load false 1 (.t 11)),
    .o 13 (.build [.nils, (.int .i64 0), (.int .i64 0), (.int .i64 0)] [(1, 1, (.t 10)), (2, 1, (.t 12))]),
    .n (.store 4 (.t 0) (.t 13))])
  .skip)))⟩
abbrev q49_0 : List Bool := [Z,Z,Z,Z,X,Z,Z,Z,Z,Z,Z,Z,Z,Z,Z,Z,Z,Z,Z,Z,Z,Z,Z,Z,Z,Z,Z,Z,Z,Z]
abbrev q49_2 : List Bool := [X,Z,Z,Z,X,X,Z,Z,Z,Z,Z,Z,Z,Z,Z,Z,Z,Z,Z,Z,Z,Z,Z,Z,Z,Z,Z,Z,Z,Z]
def x49_2 (t0 t4 t5 : AV) : Fr := ⟨[t0,J,J,J,t4,t5,J,J,J,J,J,J,J,J,J,J,J,J,J,J,J,J,J,J,J,J,J,J,J,J], [], .call⟩
abbrev q49_1 : List Bool := [X,Z,Z,Z,X,Z,Z,Z,Z,Z,Z,Z,Z,Z,Z,Z,Z,Z,Z,Z,Z,Z,Z,Z,Z,Z,Z,Z,Z,Z]
def x49_1 (t0 t4 : AV) : Fr := ⟨[t0,J,J,J,t4,J,J,J,J,J,J,J,J,J,J,J,J,J,J,J,J,J,J,J,J,J,J,J,J,J], [], .call⟩
abbrev k49_0 : List Bool := [X,Z,Z,Z,X,Z,Z,Z,Z,Z,Z,Z,Z,Z,Z,Z,Z,Z,Z,Z,Z,Z,Z,Z,Z,Z,Z,Z,Z,Z]
def l49_0 : SCode := (.block 1 q49_1
  (.seq (.region false [
    .o 5 (.mov (.i 3))])
  (.seq (.block 2 q49_2
  (.seq (.region false [
    .m 16 0,
    .o 17 (.call (.f 68) [(.t 16), (.i 4)]),
    .m 15 17])
  (.cond (.t 15)
  .skip
  (.seq (.region false [
    .m 19 0,
    .o 20 (.call (.f 68) [(.t 19), (.i 5)]),
    .m 18 20])
  (.cond (.t 18)
  (.region false [
    .o 5 (.mov (.i 4))])
  (.exit 0 q49_0))))))
  (.region false [
    .m 21 4,
    .m 22 0,
    .o 23 (.call (.f 69) [(.t 22)]),
    .o 24 (.append 6 56 (.t 21) (.t 23)),
    .m 25 5,
    .o 26 (.build [(.int .i64 0), (.int .i64 0), (.int .i64 0), (.int .i64 0), (.int .i64 0), (.str [])] [(0, 1, (.t 25)), (1, 1, (.i (-1)))]),
    .o 27 (.buildSlice 1 [(.int .i64 0), (.int .i64 0), (.int .i64 0), (.int .i64 0), (.int .i64 0), (.str [])] [(0, 6, (.t 26))]),
    .o 28 (.append 6 56 (.t 24) (.t 27)),
    .m 4 28]))))
def s49_0 (t0 t4 : AV) : Fr := ⟨[t0,J,J,J,t4,J,J,J,J,J,J,J,J,J,J,J,J,J,J,J,J,J,J,J,J,J,J,J,J,J], [], .call⟩
def x49_0 (t4 : AV) : Fr := ⟨[J,J,J,J,t4,J,J,J,J,J,J,J,J,J,J,J,J,J,J,J,J,J,J,J,J,J,J,J,J,J], [], .call⟩
abbrev q49 : List Bool := [Z,Z,X,Z,Z,Z,Z,Z,Z,Z,Z,Z,Z,Z,Z,Z,Z,Z,Z,Z,Z,Z,Z,Z,Z,Z,Z,Z,Z,Z]
def r49 (t2 : AV) : Fr := ⟨[J,J,t2,J,J,J,J,J,J,J,J,J,J,J,J,J,J,J,J,J,J,J,J,J,J,J,J,J,J,J], [], .call⟩
/-- (*drachm/parse.parser).main -/
def f49 : SFunc := ⟨.open_, 30, [(.tmp 2)],
  (.seq (.region false [
    .o 2 (.mov (.const .nils))])
  (.scope (.seq (.region false [
    .m 6 0,
    .o 7 (.call (.f 68) [(.t 6), (.i 5)]),
    .m 3 7])
  (.seq (.region false [
    .m 8 0,
    .o 9 (.call (.f 69) [(.t 8)]),
    .m 4 9])
  (.seq (.seq (.region false [
    .m 10 3])
  (.cond (.t 10)
  (.region false [
    .m 11 4,
    .o 12 (.build [(.int .i64 0), (.int .i64 0), (.int .i64 0), (.int .i64 0), (.int .i64 0), (.str [])] [(0, 1, (.i 5)), (1, 1, (.i (-1)))]),
    .o 13 (.buildSlice 1 [(.int .i64 0), (.int .i64 0), (.int .i64 0), (.int .i64 0), (.int .i64 0), (.str [])] [(0, 6, (.t 12))]),
    .o 14 (.append 6 56 (.t 11) (.t 13)),
    .m 4 14])
  .skip))
  (.seq .skip
  (.seq (.block 0 q49_0
  (.loop k49_0 l49_0))
  (.seq (.region false [
    .m 29 4,
    .m 2 29])
  (.ret q49)))))))))⟩
/-- (*drachm/parse.parser).must -/
def f50 : SFunc := ⟨.open_, 10, [],
  (.seq (.region false [
    .m 4 1,
    .o 5 (.un .not (.t 4))])
  (.cond (.t 5)
  (.region false [
    .m 6 0,
    .o 7 (.call (.f 70) [(.t 6)]),
    .o 8 (.build [(.int .i64 0), (.int .i64 0)] [(0, 1, (.i 14)), (1, 1, (.t 7))]),
    .o 9 (.mkIface 0 (.t 8)),
    .n (.panic (.t 9))])
  .skip))⟩
abbrev q51 : List Bool := [X,Z,Z,Z,Z,Z]
def r51 (t0 : AV) : Fr := ⟨[t0,J,J,J,J,J], [], .call⟩
/-- drachm/drachmref05.Table -/
def f51 : SFunc := ⟨.closed, 6, [(.cell 0 true 2)],
  (.seq (.region false [
    .o 0 (.alloc [.nils, .nils])])
  (.seq (.region false [
    .o 1 (.call (.f 71) []),
    .o 2 (.call (.f 72) []),
    .o 3 (.append 12 152 (.t 1) (.t 2)),
    .o 4 (.call (.f 73) []),
    .o 5 (.build [.nils, .nils] [(0, 1, (.t 3)), (1, 1, (.t 4))]),
    .n (.store 2 (.t 0) (.t 5))])
  (.ret q51)))⟩
abbrev q52 : List Bool := [Z,Z,Z,Z,Z,Z,Z,Z,X,Z,Z,Z,Z,Z,Z,Z,Z,Z,Z,Z,Z,Z,Z,Z,Z,Z,Z,Z,Z,Z,Z,Z,Z,Z,Z,Z,Z,Z]
def r52 (t8 : AV) : Fr := ⟨[J,J,J,J,J,J,J,J,t8,J,J,J,J,J,J,J,J,J,J,J,J,J,J,J,J,J,J,J,J,J,J,J,J,J,J,J,J,J], [], .call⟩
/-- drachm/drachmref10.told -/
def f52 : SFunc := ⟨.closed, 38, [(.tmp 8)],
  (.seq (.region false [
    .o 4 (.box 2 (.t 0)),
    .o 8 (.mov (.b false))])
  (.seq (.region false [
    .o 11 (.load true 2 (.t 4)),
    .m 12 1,
    .m 13 2,
    .m 14 3,
    .o 15 (.call (.f 53) [(.t 11), (.t 12), (.t 13), (.t 14)]),
    .m 9 15])
  (.seq (.region false [
    .o 16 (.load true 2 (.t 4)),
    .m 17 1,
    .m 18 9,
    .o 19 (.call (.f 74) [(.t 16), (.t 17), (.t 18)]),
    .o 10 (.alloc [(.int .i64 0), (.int .i64 0), (.bool false)]),
    .n (.store 3 (.t 10) (.t 19))])
  (.seq (.region false [
    .m 20 9,
    .o 21 (.bin .neq .none (.t 20) (.s [])),
    .m 22 21,
    .g 23 22 true (.fieldAddr 2 (.t 10)),
    .g 24 22 true (.load false 1 (.t 23)),
    .o 25 (.pick (.t 22) (.t 24) (.b false)),
    .m 26 25,
    .g 27 26 true (.fieldAddr 0 (.t 10)),
    .g 28 26 true (.load false 1 (.t 27)),
    .gm 29 26 true 2,
    .g 30 26 true (.bin .eql .none (.t 28) (.t 29)),
    .o 31 (.pick (.t 26) (.t 30) (.b false)),
    .m 32 31,
    .g 33 32 true (.fieldAddr 1 (.t 10)),
    .g 34 32 true (.load false 1 (.t 33)),
    .gm 35 32 true 3,
    .g 36 32 true (.bin .eql .none (.t 34) (.t 35)),
    .o 37 (.pick (.t 32) (.t 36) (.b false)),
    .m 8 37])
  (.ret q52)))))⟩
abbrev q53 : List Bool := [Z,Z,Z,Z,Z,Z,Z,Z,X,Z,Z,Z,Z,Z,Z,Z,Z,Z,Z,Z,Z,Z,Z,Z,Z,Z,Z,Z,Z,Z,Z,Z,Z,Z,Z,Z,Z,Z,Z,Z,Z,Z,Z,Z,Z,Z,Z,Z,Z,Z,Z,Z,Z,Z,Z,Z,Z,Z,Z,Z,Z,Z,Z,Z,Z,Z,Z,Z,Z,Z]
def r53 (t8 : AV) : Fr := ⟨[J,J,J,J,J,J,J,J,t8,J,J,J,J,J,J,J,J,J,J,J,J,J,J,J,J,J,J,J,J,J,J,J,J,J,J,J,J,J,J,J,J,J,J,J,J,J,J,J,J,J,J,J,J,J,J,J,J,J,J,J,J,J,J,J,J,J,J,J,J,J], [], .call⟩
/-- drachm/drachmref10.text -/
def f53 : SFunc := ⟨.closed, 70, [(.tmp 8)],
  (.seq (.region false [
    .o 4 (.box 2 (.t 0)),
    .o 8 (.mov (.s []))])
  (.seq (.seq (.region false [
    .m 11 3,
    .o 12 (.bin .lss .none (.t 11) (.i 0)),
    .m 13 12,
    .gm 14 13 false 3,
    .g 15 13 false (.fieldAddr 0 (.t 4)),
    .g 16 13 false (.load false 1 (.t 15)),
    .g 17 13 false (.len .slc (.t 16)),
    .g 18 13 false (.bin .geq .none (.t 14) (.t 17)),
    .o 19 (.pick (.t 13) (.b true) (.t 18)),
    .m 20 19,
    .gm 21 20 false 2,
    .g 22 20 false (.bin .lss .none (.t 21) (.i (-1))),
    .o 23 (.pick (.t 20) (.b true) (.t 22)),
    .m 24 23,
    .gm 25 24 false 2,
    .g 26 24 false (.fieldAddr 1 (.t 4)),
    .g 27 24 false (.load false 1 (.t 26)),
    .g 28 24 false (.len .slc (.t 27)),
    .g 29 24 false (.bin .geq .none (.t 25) (.t 28)),
    .o 30 (.pick (.t 24) (.b true) (.t 29))])
  (.cond (.t 30)
  (.seq (.region false [
    .o 8 (.mov (.s []))])
  (.ret q53))
  .skip))
  (.seq (.region false [
    .o 31 (.fieldAddr 0 (.t 4)),
    .o 32 (.load false 1 (.t 31)),
    .m 33 3,
    .m 34 1,
    .o 35 (.bin .sub .none (.t 34) (.i 1)),
    .o 36 (.indexAddrVs 12 (.t 32) (.t 33)),
    .o 37 (.fieldAddr 0 (.t 36)),
    .o 38 (.indexAddrArr 5 1 (.t 37) (.t 35)),
    .o 39 (.load false 1 (.t 38)),
    .m 9 39])
  (.seq (.seq (.region false [
    .m 40 9,
    .o 41 (.bin .eql .none (.t 40) (.s [])),
    .m 42 41,
    .gm 43 42 false 2,
    .g 44 42 false (.bin .eql .none (.t 43) (.i (-1))),
    .o 45 (.pick (.t 42) (.b true) (.t 44))])
  (.cond (.t 45)
  (.seq (.region false [
    .m 46 9,
    .m 8 46])
  (.ret q53))
  .skip))
  (.seq (.region false [
    .o 47 (.fieldAddr 1 (.t 4)),
    .o 48 (.load false 1 (.t 47)),
    .m 49 2,
    .m 50 1,
    .o 51 (.bin .sub .none (.t 50) (.i 1)),
    .o 52 (.indexAddrVs 6 (.t 48) (.t 49)),
    .o 53 (.fieldAddr 0 (.t 52)),
    .o 54 (.indexAddrArr 5 1 (.t 53) (.t 51)),
    .o 55 (.load false 1 (.t 54)),
    .m 10 55])
  (.seq (.seq (.region false [
    .m 56 10,
    .o 57 (.bin .eql .none (.t 56) (.s [])),
    .m 58 57,
    .g 59 58 false (.fieldAddr 0 (.t 4)),
    .g 60 58 false (.load false 1 (.t 59)),
    .gm 61 58 false 3,
    .g 62 58 false (.indexAddrVs 12 (.t 60) (.t 61)),
    .g 63 58 false (.fieldAddr 5 (.t 62)),
    .g 64 58 false (.load false 1 (.t 63)),
    .g 65 58 false (.un .not (.t 64)),
    .o 66 (.pick (.t 58) (.b true) (.t 65))])
  (.cond (.t 66)
  (.seq (.region false [
    .o 8 (.mov (.s []))])
  (.ret q53))
  .skip))
  (.seq (.region false [
    .m 67 10,
    .m 68 9,
    .o 69 (.bin .add .none (.t 67) (.t 68)),
    .m 8 69])
  (.ret q53))))))))⟩
abbrev q54_0 : List Bool := [Z,Z,Z,Z,Z,Z,Z,Z,Z,Z,Z,Z,Z,Z,Z,Z,Z,Z,Z]
abbrev q54 : List Bool := [Z,Z,Z,Z,Z,Z,Z,Z,Z,Z,Z,Z,Z,Z,Z,Z,Z,Z,Z]
def r54 : Fr := ⟨[J,J,J,J,J,J,J,J,J,J,J,J,J,J,J,J,J,J,J], [], .call⟩
abbrev q54_1 : List Bool := [X,Z,Z,Z,Z,Z,X,X,X,Z,Z,Z,Z,Z,Z,Z,Z,Z,Z]
def x54_1 (t0 t6 t7 t8 : AV) : Fr := ⟨[t0,J,J,J,J,J,t6,t7,t8,J,J,J,J,J,J,J,J,J,J], [], .call⟩
abbrev k54_0 : List Bool := [X,Z,Z,Z,Z,Z,X,X,X,Z,Z,Z,Z,Z,Z,Z,Z,Z,Z]
def l54_0 : SCode := (.seq (.region false [
    .o 9 (.bin .lss .none (.t 8) (.t 7))])
  (.seq (.cond (.t 9)
  .skip
  (.exit 0 q54_0))
  (.seq (.block 1 q54_1
  (.seq (.region false [
    .m 10 8,
    .o 11 (.indexAddrVs 12 (.t 6) (.t 8)),
    .o 12 (.load true 12 (.t 11)),
    .o 4 (.alloc [(.str []), (.str []), (.str []), (.str []), (.str []), (.bool false), (.int .i64 0), (.int .i64 0), (.int .i64 0), (.int .i64 0), (.int .i64 0), .nils]),
    .m 3 10,
    .n (.store 12 (.t 4) (.t 12))])
  (.seq (.region false [
    .m 13 0,
    .m 14 3,
    .o 15 (.load true 12 (.t 4)),
    .o 16 (.call (.t 13) [(.t 14), (.t 15)]),
    .o 17 (.un .not (.t 16))])
  (.cond (.t 17)
  (.ret q54)
  .skip))))
  (.region false [
    .o 18 (.bin .add .none (.t 8) (.i 1)),
    .m 8 18]))))
def s54_0 (t0 t6 t7 t8 : AV) : Fr := ⟨[t0,J,J,J,J,J,t6,t7,t8,J,J,J,J,J,J,J,J,J,J], [], .call⟩
def x54_0 : Fr := ⟨[J,J,J,J,J,J,J,J,J,J,J,J,J,J,J,J,J,J,J], [], .call⟩
/-- drachm/atoms.Each$1 -/
def f54 : SFunc := ⟨.open_, 19, [],
  (.seq (.region false [
    .o 5 (.fieldAddr 0 (.t 1)),
    .o 6 (.load false 1 (.t 5)),
    .o 7 (.len .slc (.t 6)),
    .o 8 (.mov (.i 0))])
  (.block 0 q54_0
  (.loop k54_0 l54_0)))⟩
abbrev q55 : List Bool := [Z,Z,Z,Z,Z,Z,X,Z,Z,Z,Z,Z,Z,Z,Z,Z,Z,Z,Z,Z,Z,Z,Z,Z,Z,Z,Z,Z,Z,Z,Z,Z,Z,Z,Z,Z,Z,Z,Z,Z,Z,Z,Z,Z,Z,Z,Z,Z,Z,Z,Z,Z,Z,Z,Z,Z,Z,Z,Z,Z,Z,Z,Z,Z,Z,Z,Z,Z,Z,Z,Z,Z]
def r55 (t6 : AV) : Fr := ⟨[J,J,J,J,J,J,t6,J,J,J,J,J,J,J,J,J,J,J,J,J,J,J,J,J,J,J,J,J,J,J,J,J,J,J,J,J,J,J,J,J,J,J,J,J,J,J,J,J,J,J,J,J,J,J,J,J,J,J,J,J,J,J,J,J,J,J,J,J,J,J,J,J], [], .call⟩
/-- (drachm/symbol.book).text -/
def f55 : SFunc := ⟨.closed, 72, [(.tmp 6)],
  (.seq (.region false [
    .o 3 (.box 3 (.t 0)),
    .o 6 (.mov (.s []))])
  (.seq (.seq (.region false [
    .m 10 2,
    .o 11 (.bin .lss .none (.t 10) (.i 0)),
    .m 12 11,
    .gm 13 12 false 2,
    .g 14 12 false (.fieldAddr 0 (.t 3)),
    .g 15 12 false (.fieldAddr 0 (.t 14)),
    .g 16 12 false (.load false 1 (.t 15)),
    .g 17 12 false (.len .slc (.t 16)),
    .g 18 12 false (.bin .geq .none (.t 13) (.t 17)),
    .o 19 (.pick (.t 12) (.b true) (.t 18)),
    .m 20 19,
    .gm 21 20 false 1,
    .g 22 20 false (.bin .lss .none (.t 21) (.i (-1))),
    .o 23 (.pick (.t 20) (.b true) (.t 22)),
    .m 24 23,
    .gm 25 24 false 1,
    .g 26 24 false (.fieldAddr 0 (.t 3)),
    .g 27 24 false (.fieldAddr 1 (.t 26)),
    .g 28 24 false (.load false 1 (.t 27)),
    .g 29 24 false (.len .slc (.t 28)),
    .g 30 24 false (.bin .geq .none (.t 25) (.t 29)),
    .o 31 (.pick (.t 24) (.b true) (.t 30))])
  (.cond (.t 31)
  (.seq (.region false [
    .o 6 (.mov (.s []))])
  (.ret q55))
  .skip))
  (.seq (.region false [
    .o 32 (.fieldAddr 0 (.t 3)),
    .o 33 (.fieldAddr 0 (.t 32)),
    .o 34 (.load false 1 (.t 33)),
    .m 35 2,
    .o 36 (.indexAddrVs 12 (.t 34) (.t 35)),
    .o 37 (.load true 12 (.t 36)),
    .o 7 (.alloc [(.str []), (.str []), (.str []), (.str []), (.str []), (.bool false), (.int .i64 0), (.int .i64 0), (.int .i64 0), (.int .i64 0), (.int .i64 0), .nils]),
    .n (.store 12 (.t 7) (.t 37))])
  (.seq (.region false [
    .o 38 (.fieldAddr 2 (.t 3)),
    .o 39 (.load false 1 (.t 38)),
    .o 40 (.bin .sub .none (.t 39) (.i 1)),
    .o 41 (.fieldAddr 0 (.t 7)),
    .o 42 (.indexAddrArr 5 1 (.t 41) (.t 40)),
    .o 43 (.load false 1 (.t 42)),
    .m 8 43])
  (.seq (.seq (.region false [
    .m 44 1,
    .o 45 (.bin .eql .none (.t 44) (.i (-1))),
    .m 46 45,
    .gm 47 46 false 8,
    .g 48 46 false (.bin .eql .none (.t 47) (.s [])),
    .o 49 (.pick (.t 46) (.b true) (.t 48))])
  (.cond (.t 49)
  (.seq (.region false [
    .m 50 8,
    .m 6 50])
  (.ret q55))
  .skip))
  (.seq (.region true [
    .o 51 (.fieldAddr 0 (.t 3)),
    .o 52 (.fieldAddr 1 (.t 51)),
    .o 53 (.load false 1 (.t 52)),
    .m 54 1,
    .o 55 (.fieldAddr 2 (.t 3)),
    .o 56 (.load false 1 (.t 55)),
    .o 57 (.bin .sub .none (.t 56) (.i 1)),
    .o 58 (.indexAddrVs 6 (.t 53) (.t 54)),
    .o 59 (.fieldAddr 0 (.t 58)),
    .o 60 (.indexAddrArr 5 1 (.t 59) (.t 57)),
    .o 61 (.load false 1 (.t 60)),
    .m 9 61])
  (.seq (.seq (.region false [
    .m 62 9,
    .o 63 (.bin .eql .none (.t 62) (.s [])),
    .m 64 63,
    .g 65 64 false (.fieldAddr 5 (.t 7)),
    .g 66 64 false (.load false 1 (.t 65)),
    .g 67 64 false (.un .not (.t 66)),
    .o 68 (.pick (.t 64) (.b true) (.t 67))])
  (.cond (.t 68)
  (.seq (.region false [
    .o 6 (.mov (.s []))])
  (.ret q55))
  .skip))
  (.seq (.region false [
    .m 69 9,
    .m 70 8,
    .o 71 (.bin .add .none (.t 69) (.t 70)),
    .m 6 71])
  (.ret q55)))))))))⟩
abbrev q56 : List Bool := [Z,Z,X,Z,Z,Z,Z,Z]
def r56 (t2 : AV) : Fr := ⟨[J,J,t2,J,J,J,J,J], [], .call⟩
/-- slices.Clone[[]drachm/api.Prefix,drachm/api.Prefix] -/
def f56 : SFunc := ⟨.closed, 8, [(.tmp 2)],
  (.seq (.region false [
    .o 2 (.mov (.const .nils))])
  (.seq (.seq (.region false [
    .m 3 0,
    .o 4 (.isNil .slc .eql (.t 3))])
  (.cond (.t 4)
  (.seq (.region false [
    .o 2 (.mov (.const .nils))])
  (.ret q56))
  .skip))
  (.seq (.region false [
    .o 5 (.buildSlice 0 [] []),
    .m 6 0,
    .o 7 (.append 6 88 (.t 5) (.t 6)),
    .m 2 7])
  (.ret q56))))⟩
abbrev q57 : List Bool := [X,Z,Z,Z,Z,Z,Z,Z,Z,Z,Z,Z,Z,Z,Z,Z,Z,Z,Z,Z,Z,Z,Z,Z,Z,Z,Z,Z,Z,Z,Z,Z,Z,Z,Z,Z,Z,Z,Z,Z,Z,Z,Z,Z,Z,Z,Z,Z,Z,Z,Z,Z,Z,Z,Z,Z,Z,Z,Z,Z,Z,Z,Z,Z,Z,Z,Z,Z,Z,Z,Z,Z,Z,Z,Z,Z,Z,Z,Z,Z,Z,Z,Z,Z,Z,Z,Z,Z,Z,Z,Z,Z,Z,Z,Z,Z,Z,Z,Z,Z,Z,Z,Z,Z,Z,Z,Z,Z,Z,Z,Z,Z,Z,Z,Z,Z,Z,Z,Z,Z,Z,Z,Z,Z,Z,Z,Z,Z,Z,Z,Z,Z,Z,Z,Z,Z,Z,Z,Z,Z,Z,Z,Z,Z,Z,Z,Z,Z,Z,Z,Z,Z,Z,Z,Z,Z,Z,Z,Z,Z,Z,Z,Z,Z,Z,Z,Z,Z,Z,Z,Z,Z,Z,Z,Z,Z,Z,Z,Z,Z,Z,Z,Z,Z,Z,Z,Z,Z,Z,Z]
def r57 (t0 : AV) : Fr := ⟨[t0,J,J,J,J,J,J,J,J,J,J,J,J,J,J,J,J,J,J,J,J,J,J,J,J,J,J,J,J,J,J,J,J,J,J,J,J,J,J,J,J,J,J,J,J,J,J,J,J,J,J,J,J,J,J,J,J,J,J,J,J,J,J,J,J,J,J,J,J,J,J,J,J,J,J,J,J,J,J,J,J,J,J,J,J,J,J,J,J,J,J,J,J,J,J,J,J,J,J,J,J,J,J,J,J,J,J,J,J,J,J,J,J,J,J,J,J,J,J,J,J,J,J,J,J,J,J,J,J,J,J,J,J,J,J,J,J,J,J,J,J,J,J,J,J,J,J,J,J,J,J,J,J,J,J,J,J,J,J,J,J,J,J,J,J,J,J,J,J,J,J,J,J,J,J,J,J,J,J,J,J,J,J,J,J,J,J,J,J,J], [], .call⟩
/-- drachm/atoms.rows -/
def f57 : SFunc := ⟨.closed, 190, [(.cell 0 true 528)],
  (.seq (.region false [
    .o 0 (.alloc [(.str []), (.str []), (.str []), (.str []), (.str []), (.bool false), (.int .i64 0), (.int .i64 0), (.int .i64 0), (.int .i64 0), .nils, (.str []), (.str []), (.str []), (.str []), (.str []), (.bool false), (.int .i64 0), (.int .i64 0), (.int .i64 0), (.int .i64 0), .nils, (.str []), (.str []), (.str []), (.str []), (.str []), (.bool false), (.int .i64 0), (.int .i64 0), (.int .i64 0), (.int .i64 0), .nils, (.str []), (.str []), (.str []), (.str []), (.str []), (.bool false), (.int .i64 0), (.int .i64 0), (.int .i64 0), (.int .i64 0), .nils, (.str []), (.str []), (.str []), (.str []), (.str []), (.bool false), (.int .i64 0), (.int .i64 0), (.int .i64 0), (.int .i64 0), .nils, (.str []), (.str []), (.str []), (.str []), (.str []), (.bool false), (.int .i64 0), (.int .i64 0), (.int .i64 0), (.int .i64 0), .nils, (.str []), (.str []), (.str []), (.str []), (.str []), (.bool false), (.int .i64 0), (.int .i64 0), (.int .i64 0), (.int .i64 0), .nils, (.str []), (.str []), (.str []), (.str []), (.str []), (.bool false), (.int .i64 0), (.int .i64 0), (.int .i64 0), (.int .i64 0), .nils, (.str []), (.str []), (.str []), (.str []), (.str []), (.bool false), (.int .i64 0), (.int .i64 0), (.int .i64 0), (.int .i64 0), .nils, (.str []), (.str []), (.str []), (.str []), (.str []), (.bool false), (.int .i64 0), (.int .i64 0), (.int .i64 0), (.int .i64 0), .nils, (.str []), (.str []), (.str []), (.str []), (.str []), (.bool false), (.int .i64 0), (.int .i64 0), (.int .i64 0), (.int .i64 0), .nils, (.str []), (.str []), (.str []), (.str []), (.str []), (.bool false), (.int .i64 0), (.int .i64 0), (.int .i64 0), (.int .i64 0), .nils, (.str []), (.str []), (.str []), (.str []), (.str []), (.bool false), (.int .i64 0), (.int .i64 0), (.int .i64 0), (.int .i64 0), .nils, (.str []), (.str []), (.str []), (.str []), (.str []), (.bool false), (.int .i64 0), (.int .i64 0), (.int .i64 0), (.int .i64 0), .nils, (.str []), (.str []), (.str []), (.str []), (.str []), (.bool false), (.int .i64 0), (.int .i64 0), (.int .i64 0), (.int .i64 0), .nils, (.str []), (.str []), (.str []), (.str []), (.str []), (.bool false), (.int .i64 0), (.int .i64 0), (.int .i64 0), (.int .i64 0), .nils, (.str []), (.str []), (.str []), (.str []), (.str []), (.bool false), (.int .i64 0), (.int .i64 0), (.int .i64 0), (.int .i64 0), .nils, (.str []), (.str []), (.str []), (.str []), (.str []), (.bool false), (.int .i64 0), (.int .i64 0), (.int .i64 0), (.int .i64 0), .nils, (.str []), (.str []), (.str []), (.str []), (.str []), (.bool false), (.int .i64 0), (.int .i64 0), (.int .i64 0), (.int .i64 0), .nils, (.str []), (.str []), (.str []), (.str []), (.str []), (.bool false), (.int .i64 0), (.int .i64 0), (.int .i64 0), (.int .i64 0), .nils, (.str []), (.str []), (.str []), (.str []), (.str []), (.bool false), (.int .i64 0), (.int .i64 0), (.int .i64 0), (.int .i64 0), .nils, (.str []), (.str []), (.str []), (.str []), (.str []), (.bool false), (.int .i64 0), (.int .i64 0), (.int .i64 0), (.int .i64 0), .nils, (.str []), (.str []), (.str []), (.str []), (.str []), (.bool false), (.int .i64 0), (.int .i64 0), (.int .i64 0), (.int .i64 0), .nils, (.str []), (.str []), (.str []), (.str []), (.str []), (.bool false), (.int .i64 0), (.int .i64 0), (.int .i64 0), (.int .i64 0), .nils, (.str []), (.str []), (.str []), (.str []), (.str []), (.bool false), (.int .i64 0), (.int .i64 0), (.int .i64 0), (.int .i64 0), .nils, (.str []), (.str []), (.str []), (.str []), (.str []), (.bool false), (.int .i64 0), (.int .i64 0), (.int .i64 0), (.int .i64 0), .nils, (.str []), (.str []), (.str []), (.str []), (.str []), (.bool false), (.int .i64 0), (.int .i64 0), (.int .i64 0), (.int .i64 0), .nils, (.str []), (.str []), (.str []), (.str []), (.str []), (.bool false), (.int .i64 0), (.int .i64 0), (.int .i64 0), (.int .i64 0), .nils, (.str []), (.str []), (.str []), (.str []), (.str []), (.bool false), (.int .i64 0), (.int .i64 0), (.int .i64 0), (.int .i64 0), .nils, (.str []), (.str []), (.str []), (.str []), (.str []), (.bool false), (.int .i64 0), (.int .i64 0), (.int .i64 0), (.int .i64 0), .nils, (.str []), (.str []), (.str []), (.str []), (.str []), (.bool false), (.int .i64 0), (.int .i64 0), (.int .i64 0), (.int .i64 0), .nils, (.str []), (.str []), (.str []), (.str []), (.str []), (.bool false), (.int .i64 0), (.int .i64 0), (.int .i64 0), (.int .i64 0), .nils, (.str []), (.str []), (.str []), (.str []), (.str []), (.bool false), (.int .i64 0), (.int .i64 0), (.int .i64 0), (.int .i64 0), .nils, (.str []), (.str []), (.str []), (.str []), (.str []), (.bool false), (.int .i64 0), (.int .i64 0), (.int .i64 0), (.int .i64 0), .nils, (.str []), (.str []), (.str []), (.str []), (.str []), (.bool false), (.int .i64 0), (.int .i64 0), (.int .i64 0), (.int .i64 0), .nils, (.str []), (.str []), (.str []), (.str []), (.str []), (.bool false), (.int .i64 0), (.int .i64 0), (.int .i64 0), (.int .i64 0), .nils, (.str []), (.str []), (.str []), (.str []), (.str []), (.bool false), (.int .i64 0), (.int .i64 0), (.int .i64 0), (.int .i64 0), .nils, (.str []), (.str []), (.str []), (.str []), (.str []), (.bool false), (.int .i64 0), (.int .i64 0), (.int .i64 0), (.int .i64 0), .nils, (.str []), (.str []), (.str []), (.str []), (.str []), (.bool false), (.int .i64 0), (.int .i64 0), (.int .i64 0), (.int .i64 0), .nils, (.str []), (.str []), (.str []), (.str []), (.str []), (.bool false), (.int .i64 0), (.int .i64 0), (.int .i64 0), (.int .i64 0), .nils, (.str []), (.str []), (.str []), (.str []), (.str []), (.bool false), (.int .i64 0), (.int .i64 0), (.int .i64 0), (.int .i64 0), .nils, (.str []), (.str []), (.str []), (.str []), (.str []), (.bool false), (.int .i64 0), (.int .i64 0), (.int .i64 0), (.int .i64 0), .nils, (.str []), (.str []), (.str []), (.str []), (.str []), (.bool false), (.int .i64 0), (.int .i64 0), (.int .i64 0), (.int .i64 0), .nils, (.str []), (.str []), (.str []), (.str []), (.str []), (.bool false), (.int .i64 0), (.int .i64 0), (.int .i64 0), (.int .i64 0), .nils, (.str []), (.str []), (.str []), (.str []), (.str []), (.bool false), (.int .i64 0), (.int .i64 0), (.int .i64 0), (.int .i64 0), .nils, (.str []), (.str []), (.str []), (.str []), (.str []), (.bool false), (.int .i64 0), (.int .i64 0), (.int .i64 0), (.int .i64 0), .nils, (.str []), (.str []), (.str []), (.str []), (.str []), (.bool false), (.int .i64 0), (.int .i64 0), (.int .i64 0), (.int .i64 0), .nils, (.str []), (.str []), (.str []), (.str []), (.str []), (.bool false), (.int .i64 0), (.int .i64 0), (.int .i64 0), (.int .i64 0), .nils])])
  (.seq (.region false [
    .o 1 (.build [(.str []), (.str []), (.str []), (.str []), (.str [])] [(0, 1, (.s [109])), (1, 1, (.s [77])), (2, 1, (.s [109])), (3, 1, (.s [77])), (4, 1, (.s [109]))]),
    .o 2 (.build [(.str []), (.str []), (.str []), (.str []), (.str []), (.bool false), (.int .i64 0), (.int .i64 0), (.int .i64 0), (.int .i64 0), .nils] [(0, 5, (.t 1)), (5, 1, (.b true)), (6, 1, (.i 0)), (7, 1, (.i 1)), (8, 1, (.i 1)), (9, 1, (.i 0)), (10, 1, (.const .nils))]),
    .o 3 (.build [(.str []), (.str []), (.str []), (.str []), (.str [])] [(0, 1, (.s [115])), (1, 1, (.s [83])), (2, 1, (.s [115])), (3, 1, (.s [83])), (4, 1, (.s [115]))]),
    .o 4 (.build [(.str []), (.str []), (.str []), (.str []), (.str []), (.bool false), (.int .i64 0), (.int .i64 0), (.int .i64 0), (.int .i64 0), .nils] [(0, 5, (.t 3)), (5, 1, (.b true)), (6, 1, (.i 0)), (7, 1, (.i 1)), (8, 1, (.i 1)), (9, 1, (.i 0)), (10, 1, (.const .nils))]),
    .o 5 (.build [(.str []), (.str []), (.str []), (.str []), (.str [])] [(0, 1, (.s [103])), (1, 1, (.s [71])), (2, 1, (.s [103])), (3, 1, (.s [71])), (4, 1, (.s [103]))]),
    .o 6 (.build [(.str []), (.str []), (.str []), (.str []), (.str []), (.bool false), (.int .i64 0), (.int .i64 0), (.int .i64 0), (.int .i64 0), .nils] [(0, 5, (.t 5)), (5, 1, (.b true)), (6, 1, (.i 0)), (7, 1, (.i 1)), (8, 1, (.i 1)), (9, 1, (.i 0)), (10, 1, (.const .nils))]),
    .o 7 (.build [(.str []), (.str []), (.str []), (.str []), (.str [])] [(0, 1, (.s [114, 97, 100])), (1, 1, (.s [82, 65, 68])), (2, 1, (.s [114, 97, 100])), (3, 1, (.s [82, 65, 68])), (4, 1, (.s [114, 97, 100]))]),
    .o 8 (.build [(.str []), (.str []), (.str []), (.str []), (.str []), (.bool false), (.int .i64 0), (.int .i64 0), (.int .i64 0), (.int .i64 0), .nils] [(0, 5, (.t 7)), (5, 1, (.b true)), (6, 1, (.i 0)), (7, 1, (.i 1)), (8, 1, (.i 1)), (9, 1, (.i 0)), (10, 1, (.const .nils))]),
    .o 9 (.build [(.str []), (.str []), (.str []), (.str []), (.str [])] [(0, 1, (.s [75])), (1, 1, (.s [75])), (2, 1, (.s [75])), (3, 1, (.s [75])), (4, 1, (.s [75]))]),
    .o 10 (.build [(.str []), (.str []), (.str []), (.str []), (.str []), (.bool false), (.int .i64 0), (.int .i64 0), (.int .i64 0), (.int .i64 0), .nils] [(0, 5, (.t 9)), (5, 1, (.b true)), (6, 1, (.i 0)), (7, 1, (.i 1)), (8, 1, (.i 1)), (9, 1, (.i 0)), (10, 1, (.const .nils))]),
    .o 11 (.build [(.str []), (.str []), (.str []), (.str []), (.str [])] [(0, 1, (.s [67])), (1, 1, (.s [67])), (2, 1, (.s [67])), (3, 1, (.s [67])), (4, 1, (.s [67]))]),
    .o 12 (.build [(.str []), (.str []), (.str []), (.str []), (.str []), (.bool false), (.int .i64 0), (.int .i64 0), (.int .i64 0), (.int .i64 0), .nils] [(0, 5, (.t 11)), (5, 1, (.b true)), (6, 1, (.i 0)), (7, 1, (.i 1)), (8, 1, (.i 1)), (9, 1, (.i 0)), (10, 1, (.const .nils))]),
    .o 13 (.build [(.str []), (.str []), (.str []), (.str []), (.str [])] [(0, 1, (.s [99, 100])), (1, 1, (.s [67, 68])), (2, 1, (.s [99, 100])), (3, 1, (.s [67, 68])), (4, 1, (.s [99, 100]))]),
    .o 14 (.build [(.str []), (.str []), (.str []), (.str []), (.str []), (.bool false), (.int .i64 0), (.int .i64 0), (.int .i64 0), (.int .i64 0), .nils] [(0, 5, (.t 13)), (5, 1, (.b true)), (6, 1, (.i 0)), (7, 1, (.i 1)), (8, 1, (.i 1)), (9, 1, (.i 0)), (10, 1, (.const .nils))]),
    .o 15 (.build [(.str []), (.str []), (.str []), (.str []), (.str [])] [(0, 1, (.s [37])), (1, 1, (.s [37])), (2, 1, (.s [37])), (3, 1, (.s [])), (4, 1, (.s [37]))]),
    .o 16 (.build [(.str []), (.str []), (.str []), (.str []), (.str []), (.bool false), (.int .i64 0), (.int .i64 0), (.int .i64 0), (.int .i64 0), .nils] [(0, 5, (.t 15)), (5, 1, (.b false)), (6, 1, (.i 0)), (7, 1, (.i 1)), (8, 1, (.i 1)), (9, 1, (.i (-2))), (10, 1, (.const .nils))]),
    .o 17 (.build [(.str []), (.str []), (.str []), (.str []), (.str [])] [(0, 1, (.s [109, 111, 108])), (1, 1, (.s [77, 79, 76])), (2, 1, (.s [109, 111, 108])), (3, 1, (.s [77, 79, 76])), (4, 1, (.s [109, 111, 108]))]),
    .o 18 (.build [(.str []), (.str []), (.str []), (.str []), (.str []), (.bool false), (.int .i64 0), (.int .i64 0), (.int .i64 0), (.int .i64 0), .nils] [(0, 5, (.t 17)), (5, 1, (.b true)), (6, 1, (.i 0)), (7, 1, (.i 602214076)), (8, 1, (.i 1)), (9, 1, (.i 15)), (10, 1, (.const .nils))]),
    .o 19 (.build [(.str []), (.str []), (.str []), (.str []), (.str [])] [(0, 1, (.s [115, 114])), (1, 1, (.s [83, 82])), (2, 1, (.s [115, 114])), (3, 1, (.s [83, 82])), (4, 1, (.s [115, 114]))]),
    .o 20 (.build [(.int .i64 0), (.int .i64 0)] [(0, 1, (.i 3)), (1, 1, (.i 2))]),
    .o 21 (.buildSlice 1 [(.int .i64 0), (.int .i64 0)] [(0, 2, (.t 20))]),
    .o 22 (.build [(.str []), (.str []), (.str []), (.str []), (.str []), (.bool false), (.int .i64 0), (.int .i64 0), (.int .i64 0), (.int .i64 0), .nils] [(0, 5, (.t 19)), (5, 1, (.b true)), (6, 1, (.i 0)), (7, 1, (.i 1)), (8, 1, (.i 1)), (9, 1, (.i 0)), (10, 1, (.t 21))]),
    .o 23 (.build [(.str []), (.str []), (.str []), (.str []), (.str [])] [(0, 1, (.s [72, 122])), (1, 1, (.s [72, 90])), (2, 1, (.s [72, 122])), (3, 1, (.s [72, 90])), (4, 1, (.s [72, 122]))]),
    .o 24 (.build [(.int .i64 0), (.int .i64 0)] [(0, 1, (.i 1)), (1, 1, (.i (-1)))]),
    .o 25 (.buildSlice 1 [(.int .i64 0), (.int .i64 0)] [(0, 2, (.t 24))]),
    .o 26 (.build [(.str []), (.str []), (.str []), (.str []), (.str []), (.bool false), (.int .i64 0), (.int .i64 0), (.int .i64 0), (.int .i64 0), .nils] [(0, 5, (.t 23)), (5, 1, (.b true)), (6, 1, (.i 0)), (7, 1, (.i 1)), (8, 1, (.i 1)), (9, 1, (.i 0)), (10, 1, (.t 25))]),
    .o 27 (.build [(.str []), (.str []), (.str []), (.str []), (.str [])] [(0, 1, (.s [78])), (1, 1, (.s [78])), (2, 1, (.s [78])), (3, 1, (.s [78])), (4, 1, (.s [78]))]),
    .o 28 (.build [(.int .i64 0), (.int .i64 0)] [(0, 1, (.i 2)), (1, 1, (.i 1))]),
    .o 29 (.build [(.int .i64 0), (.int .i64 0)] [(0, 1, (.i 0)), (1, 1, (.i 1))]),
    .o 30 (.build [(.int .i64 0), (.int .i64 0)] [(0, 1, (.i 1)), (1, 1, (.i (-2)))]),
    .o 31 (.buildSlice 3 [(.int .i64 0), (.int .i64 0), (.int .i64 0), (.int .i64 0), (.int .i64 0), (.int .i64 0)] [(0, 2, (.t 28)), (2, 2, (.t 29)), (4, 2, (.t 30))]),
    .o 32 (.build [(.str []), (.str []), (.str []), (.str []), (.str []), (.bool false), (.int .i64 0), (.int .i64 0), (.int .i64 0), (.int .i64 0), .nils] [(0, 5, (.t 27)), (5, 1, (.b true)), (6, 1, (.i 0)), (7, 1, (.i 1)), (8, 1, (.i 1)), (9, 1, (.i 3)), (10, 1, (.t 31))]),
    .o 33 (.build [(.str []), (.str []), (.str []), (.str []), (.str [])] [(0, 1, (.s [80, 97])), (1, 1, (.s [80, 65, 76])), (2, 1, (.s [80, 97])), (3, 1, (.s [80, 65])), (4, 1, (.s [80, 97]))]),
    .o 34 (.build [(.int .i64 0), (.int .i64 0)] [(0, 1, (.i 11)), (1, 1, (.i 1))]),
    .o 35 (.build [(.int .i64 0), (.int .i64 0)] [(0, 1, (.i 0)), (1, 1, (.i (-2)))]),
    .o 36 (.buildSlice 2 [(.int .i64 0), (.int .i64 0), (.int .i64 0), (.int .i64 0)] [(0, 2, (.t 34)), (2, 2, (.t 35))]),
    .o 37 (.build [(.str []), (.str []), (.str []), (.str []), (.str []), (.bool false), (.int .i64 0), (.int .i64 0), (.int .i64 0), (.int .i64 0), .nils] [(0, 5, (.t 33)), (5, 1, (.b true)), (6, 1, (.i 0)), (7, 1, (.i 1)), (8, 1, (.i 1)), (9, 1, (.i 0)), (10, 1, (.t 36))]),
    .o 38 (.build [(.str []), (.str []), (.str []), (.str []), (.str [])] [(0, 1, (.s [74])), (1, 1, (.s [74])), (2, 1, (.s [74])), (3, 1, (.s [74])), (4, 1, (.s [74]))]),
    .o 39 (.build [(.int .i64 0), (.int .i64 0)] [(0, 1, (.i 11)), (1, 1, (.i 1))]),
    .o 40 (.build [(.int .i64 0), (.int .i64 0)] [(0, 1, (.i 0)), (1, 1, (.i 1))]),
    .o 41 (.buildSlice 2 [(.int .i64 0), (.int .i64 0), (.int .i64 0), (.int .i64 0)] [(0, 2, (.t 39)), (2, 2, (.t 40))]),
    .o 42 (.build [(.str []), (.str []), (.str []), (.str []), (.str []), (.bool false), (.int .i64 0), (.int .i64 0), (.int .i64 0), (.int .i64 0), .nils] [(0, 5, (.t 38)), (5, 1, (.b true)), (6, 1, (.i 0)), (7, 1, (.i 1)), (8, 1, (.i 1)), (9, 1, (.i 0)), (10, 1, (.t 41))]),
    .o 43 (.build [(.str []), (.str []), (.str []), (.str []), (.str [])] [(0, 1, (.s [87])), (1, 1, (.s [87])), (2, 1, (.s [87])), (3, 1, (.s [87])), (4, 1, (.s [87]))]),
    .o 44 (.build [(.int .i64 0), (.int .i64 0)] [(0, 1, (.i 13)), (1, 1, (.i 1))]),
    .o 45 (.build [(.int .i64 0), (.int .i64 0)] [(0, 1, (.i 1)), (1, 1, (.i (-1)))]),
    .o 46 (.buildSlice 2 [(.int .i64 0), (.int .i64 0), (.int .i64 0), (.int .i64 0)] [(0, 2, (.t 44)), (2, 2, (.t 45))]),
    .o 47 (.build [(.str []), (.str []), (.str []), (.str []), (.str []), (.bool false), (.int .i64 0), (.int .i64 0), (.int .i64 0), (.int .i64 0), .nils] [(0, 5, (.t 43)), (5, 1, (.b true)), (6, 1, (.i 0)), (7, 1, (.i 1)), (8, 1, (.i 1)), (9, 1, (.i 0)), (10, 1, (.t 46))]),
    .o 48 (.build [(.str []), (.str []), (.str []), (.str []), (.str [])] [(0, 1, (.s [65])), (1, 1, (.s [65])), (2, 1, (.s [65])), (3, 1, (.s [65])), (4, 1, (.s [65]))]),
    .o 49 (.build [(.int .i64 0), (.int .i64 0)] [(0, 1, (.i 5)), (1, 1, (.i 1))]),
    .o 50 (.build [(.int .i64 0), (.int .i64 0)] [(0, 1, (.i 1)), (1, 1, (.i (-1)))]),
    .o 51 (.buildSlice 2 [(.int .i64 0), (.int .i64 0), (.int .i64 0), (.int .i64 0)] [(0, 2, (.t 49)), (2, 2, (.t 50))]),
    .o 52 (.build [(.str []), (.str []), (.str []), (.str []), (.str []), (.bool false), (.int .i64 0), (.int .i64 0), (.int .i64 0), (.int .i64 0), .nils] [(0, 5, (.t 48)), (5, 1, (.b true)), (6, 1, (.i 0)), (7, 1, (.i 1)), (8, 1, (.i 1)), (9, 1, (.i 0)), (10, 1, (.t 51))]),
    .o 53 (.build [(.str []), (.str []), (.str []), (.str []), (.str [])] [(0, 1, (.s [86])), (1, 1, (.s [86])), (2, 1, (.s [86])), (3, 1, (.s [86])), (4, 1, (.s [86]))]),
    .o 54 (.build [(.int .i64 0), (.int .i64 0)] [(0, 1, (.i 13)), (1, 1, (.i 1))]),
    .o 55 (.build [(.int .i64 0), (.int .i64 0)] [(0, 1, (.i 5)), (1, 1, (.i (-1)))]),
    .o 56 (.buildSlice 2 [(.int .i64 0), (.int .i64 0), (.int .i64 0), (.int .i64 0)] [(0, 2, (.t 54)), (2, 2, (.t 55))]),
    .o 57 (.build [(.str []), (.str []), (.str []), (.str []), (.str []), (.bool false), (.int .i64 0), (.int .i64 0), (.int .i64 0), (.int .i64 0), .nils] [(0, 5, (.t 53)), (5, 1, (.b true)), (6, 1, (.i 0)), (7, 1, (.i 1)), (8, 1, (.i 1)), (9, 1, (.i 0)), (10, 1, (.t 56))]),
    .o 58 (.build [(.str []), (.str []), (.str []), (.str []), (.str [])] [(0, 1, (.s [70])), (1, 1, (.s [70])), (2, 1, (.s [70])), (3, 1, (.s [70])), (4, 1, (.s [70]))]),
    .o 59 (.build [(.int .i64 0), (.int .i64 0)] [(0, 1, (.i 5)), (1, 1, (.i 1))]),
    .o 60 (.build [(.int .i64 0), (.int .i64 0)] [(0, 1, (.i 16)), (1, 1, (.i (-1)))]),
    .o 61 (.buildSlice 2 [(.int .i64 0), (.int .i64 0), (.int .i64 0), (.int .i64 0)] [(0, 2, (.t 59)), (2, 2, (.t 60))]),
    .o 62 (.build [(.str []), (.str []), (.str []), (.str []), (.str []), (.bool false), (.int .i64 0), (.int .i64 0), (.int .i64 0), (.int .i64 0), .nils] [(0, 5, (.t 58)), (5, 1, (.b true)), (6, 1, (.i 0)), (7, 1, (.i 1)), (8, 1, (.i 1)), (9, 1, (.i 0)), (10, 1, (.t 61))]),
    .o 63 (.build [(.str []), (.str []), (.str []), (.str []), (.str [])] [(0, 1, (.s [79, 104, 109])), (1, 1, (.s [79, 72, 77])), (2, 1, (.s [79, 104, 109])), (3, 1, (.s [79, 72, 77])), (4, 1, (.s [111, 104, 109]))]),
    .o 64 (.build [(.int .i64 0), (.int .i64 0)] [(0, 1, (.i 16)), (1, 1, (.i 1))]),
    .o 65 (.build [(.int .i64 0), (.int .i64 0)] [(0, 1, (.i 15)), (1, 1, (.i (-1)))]),
    .o 66 (.buildSlice 2 [(.int .i64 0), (.int .i64 0), (.int .i64 0), (.int .i64 0)] [(0, 2, (.t 64)), (2, 2, (.t 65))]),
    .o 67 (.build [(.str []), (.str []), (.str []), (.str []), (.str []), (.bool false), (.int .i64 0), (.int .i64 0), (.int .i64 0), (.int .i64 0), .nils] [(0, 5, (.t 63)), (5, 1, (.b true)), (6, 1, (.i 0)), (7, 1, (.i 1)), (8, 1, (.i 1)), (9, 1, (.i 0)), (10, 1, (.t 66))]),
    .o 68 (.build [(.str []), (.str []), (.str []), (.str []), (.str [])] [(0, 1, (.s [83])), (1, 1, (.s [83, 73, 69])), (2, 1, (.s [83])), (3, 1, (.s [83, 73, 69])), (4, 1, (.s [83]))]),
    .o 69 (.build [(.int .i64 0), (.int .i64 0)] [(0, 1, (.i 18)), (1, 1, (.i (-1)))]),
    .o 70 (.buildSlice 1 [(.int .i64 0), (.int .i64 0)] [(0, 2, (.t 69))]),
    .o 71 (.build [(.str []), (.str []), (.str []), (.str []), (.str []), (.bool false), (.int .i64 0), (.int .i64 0), (.int .i64 0), (.int .i64 0), .nils] [(0, 5, (.t 68)), (5, 1, (.b true)), (6, 1, (.i 0)), (7, 1, (.i 1)), (8, 1, (.i 1)), (9, 1, (.i 0)), (10, 1, (.t 70))]),
    .o 72 (.build [(.str []), (.str []), (.str []), (.str []), (.str [])] [(0, 1, (.s [87, 98])), (1, 1, (.s [87, 66])), (2, 1, (.s [87, 98])), (3, 1, (.s [87, 66])), (4, 1, (.s [87, 98]))]),
    .o 73 (.build [(.int .i64 0), (.int .i64 0)] [(0, 1, (.i 16)), (1, 1, (.i 1))]),
    .o 74 (.build [(.int .i64 0), (.int .i64 0)] [(0, 1, (.i 1)), (1, 1, (.i 1))]),
    .o 75 (.buildSlice 2 [(.int .i64 0), (.int .i64 0), (.int .i64 0), (.int .i64 0)] [(0, 2, (.t 73)), (2, 2, (.t 74))]),
    .o 76 (.build [(.str []), (.str []), (.str []), (.str []), (.str []), (.bool false), (.int .i64 0), (.int .i64 0), (.int .i64 0), (.int .i64 0), .nils] [(0, 5, (.t 72)), (5, 1, (.b true)), (6, 1, (.i 0)), (7, 1, (.i 1)), (8, 1, (.i 1)), (9, 1, (.i 0)), (10, 1, (.t 75))]),
    .o 77 (.build [(.str []), (.str []), (.str []), (.str []), (.str [])] [(0, 1, (.s [67, 101, 108])), (1, 1, (.s [67, 69, 76])), (2, 1, (.s [91, 111, 67, 93])), (3, 1, (.s [67, 69, 76])), (4, 1, (.s []))]),
    .o 78 (.build [(.int .i64 0), (.int .i64 0)] [(0, 1, (.i 4)), (1, 1, (.i 1))]),
    .o 79 (.buildSlice 1 [(.int .i64 0), (.int .i64 0)] [(0, 2, (.t 78))]),
    .o 80 (.build [(.str []), (.str []), (.str []), (.str []), (.str []), (.bool false), (.int .i64 0), (.int .i64 0), (.int .i64 0), (.int .i64 0), .nils] [(0, 5, (.t 77)), (5, 1, (.b true)), (6, 1, (.i 1)), (7, 1, (.i 1)), (8, 1, (.i 1)), (9, 1, (.i 0)), (10, 1, (.t 79))]),
    .o 81 (.build [(.str []), (.str []), (.str []), (.str []), (.str [])] [(0, 1, (.s [84])), (1, 1, (.s [84])), (2, 1, (.s [84])), (3, 1, (.s [84])), (4, 1, (.s [84]))]),
    .o 82 (.build [(.int .i64 0), (.int .i64 0)] [(0, 1, (.i 20)), (1, 1, (.i 1))]),
    .o 83 (.build [(.int .i64 0), (.int .i64 0)] [(0, 1, (.i 0)), (1, 1, (.i (-2)))]),
    .o 84 (.buildSlice 2 [(.int .i64 0), (.int .i64 0), (.int .i64 0), (.int .i64 0)] [(0, 2, (.t 82)), (2, 2, (.t 83))]),
    .o 85 (.build [(.str []), (.str []), (.str []), (.str []), (.str []), (.bool false), (.int .i64 0), (.int .i64 0), (.int .i64 0), (.int .i64 0), .nils] [(0, 5, (.t 81)), (5, 1, (.b true)), (6, 1, (.i 0)), (7, 1, (.i 1)), (8, 1, (.i 1)), (9, 1, (.i 0)), (10, 1, (.t 84))]),
    .o 86 (.build [(.str []), (.str []), (.str []), (.str []), (.str [])] [(0, 1, (.s [72])), (1, 1, (.s [72])), (2, 1, (.s [72])), (3, 1, (.s [72])), (4, 1, (.s [72]))]),
    .o 87 (.build [(.int .i64 0), (.int .i64 0)] [(0, 1, (.i 20)), (1, 1, (.i 1))]),
    .o 88 (.build [(.int .i64 0), (.int .i64 0)] [(0, 1, (.i 15)), (1, 1, (.i (-1)))]),
    .o 89 (.buildSlice 2 [(.int .i64 0), (.int .i64 0), (.int .i64 0), (.int .i64 0)] [(0, 2, (.t 87)), (2, 2, (.t 88))]),
    .o 90 (.build [(.str []), (.str []), (.str []), (.str []), (.str []), (.bool false), (.int .i64 0), (.int .i64 0), (.int .i64 0), (.int .i64 0), .nils] [(0, 5, (.t 86)), (5, 1, (.b true)), (6, 1, (.i 0)), (7, 1, (.i 1)), (8, 1, (.i 1)), (9, 1, (.i 0)), (10, 1, (.t 89))]),
    .o 91 (.build [(.str []), (.str []), (.str []), (.str []), (.str [])] [(0, 1, (.s [108, 109])), (1, 1, (.s [76, 77])), (2, 1, (.s [108, 109])), (3, 1, (.s [76, 77])), (4, 1, (.s [108, 109]))]),
    .o 92 (.build [(.int .i64 0), (.int .i64 0)] [(0, 1, (.i 6)), (1, 1, (.i 1))]),
    .o 93 (.build [(.int .i64 0), (.int .i64 0)] [(0, 1, (.i 9)), (1, 1, (.i 1))]),
    .o 94 (.buildSlice 2 [(.int .i64 0), (.int .i64 0), (.int .i64 0), (.int .i64 0)] [(0, 2, (.t 92)), (2, 2, (.t 93))]),
    .o 95 (.build [(.str []), (.str []), (.str []), (.str []), (.str []), (.bool false), (.int .i64 0), (.int .i64 0), (.int .i64 0), (.int .i64 0), .nils] [(0, 5, (.t 91)), (5, 1, (.b true)), (6, 1, (.i 0)), (7, 1, (.i 1)), (8, 1, (.i 1)), (9, 1, (.i 0)), (10, 1, (.t 94))]),
    .o 96 (.build [(.str []), (.str []), (.str []), (.str []), (.str [])] [(0, 1, (.s [108, 120])), (1, 1, (.s [76, 88])), (2, 1, (.s [108, 120])), (3, 1, (.s [76, 88])), (4, 1, (.s [108, 120]))]),
    .o 97 (.build [(.int .i64 0), (.int .i64 0)] [(0, 1, (.i 24)), (1, 1, (.i 1))]),
    .o 98 (.build [(.int .i64 0), (.int .i64 0)] [(0, 1, (.i 0)), (1, 1, (.i (-2)))]),
    .o 99 (.buildSlice 2 [(.int .i64 0), (.int .i64 0), (.int .i64 0), (.int .i64 0)] [(0, 2, (.t 97)), (2, 2, (.t 98))]),
    .o 100 (.build [(.str []), (.str []), (.str []), (.str []), (.str []), (.bool false), (.int .i64 0), (.int .i64 0), (.int .i64 0), (.int .i64 0), .nils] [(0, 5, (.t 96)), (5, 1, (.b true)), (6, 1, (.i 0)), (7, 1, (.i 1)), (8, 1, (.i 1)), (9, 1, (.i 0)), (10, 1, (.t 99))]),
    .o 101 (.build [(.str []), (.str []), (.str []), (.str []), (.str [])] [(0, 1, (.s [66, 113])), (1, 1, (.s [66, 81])), (2, 1, (.s [66, 113])), (3, 1, (.s [66, 81])), (4, 1, (.s [66, 113]))]),
    .o 102 (.build [(.int .i64 0), (.int .i64 0)] [(0, 1, (.i 1)), (1, 1, (.i (-1)))]),
    .o 103 (.buildSlice 1 [(.int .i64 0), (.int .i64 0)] [(0, 2, (.t 102))]),
    .o 104 (.build [(.str []), (.str []), (.str []), (.str []), (.str []), (.bool false), (.int .i64 0), (.int .i64 0), (.int .i64 0), (.int .i64 0), .nils] [(0, 5, (.t 101)), (5, 1, (.b true)), (6, 1, (.i 0)), (7, 1, (.i 1)), (8, 1, (.i 1)), (9, 1, (.i 0)), (10, 1, (.t 103))]),
    .o 105 (.build [(.str []), (.str []), (.str []), (.str []), (.str [])] [(0, 1, (.s [71, 121])), (1, 1, (.s [71, 89])), (2, 1, (.s [71, 121])), (3, 1, (.s [71, 89])), (4, 1, (.s [71, 121]))]),
    .o 106 (.build [(.int .i64 0), (.int .i64 0)] [(0, 1, (.i 13)), (1, 1, (.i 1))]),
    .o 107 (.build [(.int .i64 0), (.int .i64 0)] [(0, 1, (.i 2)), (1, 1, (.i (-1)))]),
    .o 108 (.buildSlice 2 [(.int .i64 0), (.int .i64 0), (.int .i64 0), (.int .i64 0)] [(0, 2, (.t 106)), (2, 2, (.t 107))]),
    .o 109 (.build [(.str []), (.str []), (.str []), (.str []), (.str []), (.bool false), (.int .i64 0), (.int .i64 0), (.int .i64 0), (.int .i64 0), .nils] [(0, 5, (.t 105)), (5, 1, (.b true)), (6, 1, (.i 0)), (7, 1, (.i 1)), (8, 1, (.i 1)), (9, 1, (.i (-3))), (10, 1, (.t 108))]),
    .o 110 (.build [(.str []), (.str []), (.str []), (.str []), (.str [])] [(0, 1, (.s [83, 118])), (1, 1, (.s [83, 86])), (2, 1, (.s [83, 118])), (3, 1, (.s [83, 86])), (4, 1, (.s [83, 118]))]),
    .o 111 (.build [(.int .i64 0), (.int .i64 0)] [(0, 1, (.i 13)), (1, 1, (.i 1))]),
    .o 112 (.build [(.int .i64 0), (.int .i64 0)] [(0, 1, (.i 2)), (1, 1, (.i (-1)))]),
    .o 113 (.buildSlice 2 [(.int .i64 0), (.int .i64 0), (.int .i64 0), (.int .i64 0)] [(0, 2, (.t 111)), (2, 2, (.t 112))]),
    .o 114 (.build [(.str []), (.str []), (.str []), (.str []), (.str []), (.bool false), (.int .i64 0), (.int .i64 0), (.int .i64 0), (.int .i64 0), .nils] [(0, 5, (.t 110)), (5, 1, (.b true)), (6, 1, (.i 0)), (7, 1, (.i 1)), (8, 1, (.i 1)), (9, 1, (.i (-3))), (10, 1, (.t 113))]),
    .o 115 (.build [(.str []), (.str []), (.str []), (.str []), (.str [])] [(0, 1, (.s [108])), (1, 1, (.s [76])), (2, 1, (.s [76])), (3, 1, (.s [76])), (4, 1, (.s [108]))]),
    .o 116 (.build [(.int .i64 0), (.int .i64 0)] [(0, 1, (.i 0)), (1, 1, (.i 3))]),
    .o 117 (.buildSlice 1 [(.int .i64 0), (.int .i64 0)] [(0, 2, (.t 116))]),
    .o 118 (.build [(.str []), (.str []), (.str []), (.str []), (.str []), (.bool false), (.int .i64 0), (.int .i64 0), (.int .i64 0), (.int .i64 0), .nils] [(0, 5, (.t 115)), (5, 1, (.b true)), (6, 1, (.i 0)), (7, 1, (.i 1)), (8, 1, (.i 1)), (9, 1, (.i (-3))), (10, 1, (.t 117))]),
    .o 119 (.build [(.str []), (.str []), (.str []), (.str []), (.str [])] [(0, 1, (.s [97, 114])), (1, 1, (.s [65, 82])), (2, 1, (.s [97])), (3, 1, (.s [65, 82, 69])), (4, 1, (.s [97]))]),
    .o 120 (.build [(.int .i64 0), (.int .i64 0)] [(0, 1, (.i 0)), (1, 1, (.i 2))]),
    .o 121 (.buildSlice 1 [(.int .i64 0), (.int .i64 0)] [(0, 2, (.t 120))]),
    .o 122 (.build [(.str []), (.str []), (.str []), (.str []), (.str []), (.bool false), (.int .i64 0), (.int .i64 0), (.int .i64 0), (.int .i64 0), .nils] [(0, 5, (.t 119)), (5, 1, (.b true)), (6, 1, (.i 0)), (7, 1, (.i 1)), (8, 1, (.i 1)), (9, 1, (.i 2)), (10, 1, (.t 121))]),
    .o 123 (.build [(.str []), (.str []), (.str []), (.str []), (.str [])] [(0, 1, (.s [109, 105, 110])), (1, 1, (.s [77, 73, 78])), (2, 1, (.s [109, 105, 110])), (3, 1, (.s [77, 73, 78])), (4, 1, (.s [109, 105, 110]))]),
    .o 124 (.build [(.int .i64 0), (.int .i64 0)] [(0, 1, (.i 1)), (1, 1, (.i 1))]),
    .o 125 (.buildSlice 1 [(.int .i64 0), (.int .i64 0)] [(0, 2, (.t 124))]),
    .o 126 (.build [(.str []), (.str []), (.str []), (.str []), (.str []), (.bool false), (.int .i64 0), (.int .i64 0), (.int .i64 0), (.int .i64 0), .nils] [(0, 5, (.t 123)), (5, 1, (.b false)), (6, 1, (.i 0)), (7, 1, (.i 6)), (8, 1, (.i 1)), (9, 1, (.i 1)), (10, 1, (.t 125))]),
    .o 127 (.build [(.str []), (.str []), (.str []), (.str []), (.str [])] [(0, 1, (.s [104])), (1, 1, (.s [72, 82])), (2, 1, (.s [104])), (3, 1, (.s [72, 82])), (4, 1, (.s [104, 114]))]),
    .o 128 (.build [(.int .i64 0), (.int .i64 0)] [(0, 1, (.i 1)), (1, 1, (.i 1))]),
    .o 129 (.buildSlice 1 [(.int .i64 0), (.int .i64 0)] [(0, 2, (.t 128))]),
    .o 130 (.build [(.str []), (.str []), (.str []), (.str []), (.str []), (.bool false), (.int .i64 0), (.int .i64 0), (.int .i64 0), (.int .i64 0), .nils] [(0, 5, (.t 127)), (5, 1, (.b false)), (6, 1, (.i 0)), (7, 1, (.i 36)), (8, 1, (.i 1)), (9, 1, (.i 2)), (10, 1, (.t 129))]),
    .o 131 (.build [(.str []), (.str []), (.str []), (.str []), (.str [])] [(0, 1, (.s [100])), (1, 1, (.s [68])), (2, 1, (.s [100])), (3, 1, (.s [68])), (4, 1, (.s [100]))]),
    .o 132 (.build [(.int .i64 0), (.int .i64 0)] [(0, 1, (.i 32)), (1, 1, (.i 1))]),
    .o 133 (.buildSlice 1 [(.int .i64 0), (.int .i64 0)] [(0, 2, (.t 132))]),
    .o 134 (.build [(.str []), (.str []), (.str []), (.str []), (.str []), (.bool false), (.int .i64 0), (.int .i64 0), (.int .i64 0), (.int .i64 0), .nils] [(0, 5, (.t 131)), (5, 1, (.b false)), (6, 1, (.i 0)), (7, 1, (.i 24)), (8, 1, (.i 1)), (9, 1, (.i 0)), (10, 1, (.t 133))]),
    .o 135 (.build [(.str []), (.str []), (.str []), (.str []), (.str [])] [(0, 1, (.s [97])), (1, 1, (.s [65, 78, 78])), (2, 1, (.s [121, 114])), (3, 1, (.s [65, 78, 78])), (4, 1, (.s [121, 114]))]),
    .o 136 (.build [(.int .i64 0), (.int .i64 0)] [(0, 1, (.i 33)), (1, 1, (.i 1))]),
    .o 137 (.buildSlice 1 [(.int .i64 0), (.int .i64 0)] [(0, 2, (.t 136))]),
    .o 138 (.build [(.str []), (.str []), (.str []), (.str []), (.str []), (.bool false), (.int .i64 0), (.int .i64 0), (.int .i64 0), (.int .i64 0), .nils] [(0, 5, (.t 135)), (5, 1, (.b false)), (6, 1, (.i 0)), (7, 1, (.i 36525)), (8, 1, (.i 1)), (9, 1, (.i (-2))), (10, 1, (.t 137))]),
    .o 139 (.build [(.str []), (.str []), (.str []), (.str []), (.str [])] [(0, 1, (.s [116])), (1, 1, (.s [84, 78, 69])), (2, 1, (.s [116])), (3, 1, (.s [84, 78, 69])), (4, 1, (.s [116]))]),
    .o 140 (.build [(.int .i64 0), (.int .i64 0)] [(0, 1, (.i 2)), (1, 1, (.i 1))]),
    .o 141 (.buildSlice 1 [(.int .i64 0), (.int .i64 0)] [(0, 2, (.t 140))]),
    .o 142 (.build [(.str []), (.str []), (.str []), (.str []), (.str []), (.bool false), (.int .i64 0), (.int .i64 0), (.int .i64 0), (.int .i64 0), .nils] [(0, 5, (.t 139)), (5, 1, (.b true)), (6, 1, (.i 0)), (7, 1, (.i 1)), (8, 1, (.i 1)), (9, 1, (.i 6)), (10, 1, (.t 141))]),
    .o 143 (.build [(.str []), (.str []), (.str []), (.str []), (.str [])] [(0, 1, (.s [98, 97, 114])), (1, 1, (.s [66, 65, 82])), (2, 1, (.s [98, 97, 114])), (3, 1, (.s [66, 65, 82])), (4, 1, (.s [98, 97, 114]))]),
    .o 144 (.build [(.int .i64 0), (.int .i64 0)] [(0, 1, (.i 12)), (1, 1, (.i 1))]),
    .o 145 (.buildSlice 1 [(.int .i64 0), (.int .i64 0)] [(0, 2, (.t 144))]),
    .o 146 (.build [(.str []), (.str []), (.str []), (.str []), (.str []), (.bool false), (.int .i64 0), (.int .i64 0), (.int .i64 0), (.int .i64 0), .nils] [(0, 5, (.t 143)), (5, 1, (.b true)), (6, 1, (.i 0)), (7, 1, (.i 1)), (8, 1, (.i 1)), (9, 1, (.i 5)), (10, 1, (.t 145))]),
    .o 147 (.build [(.str []), (.str []), (.str []), (.str []), (.str [])] [(0, 1, (.s [91, 105, 110, 95, 105, 93])), (1, 1, (.s [91, 73, 78, 95, 73, 93])), (2, 1, (.s [105, 110])), (3, 1, (.s [73, 78])), (4, 1, (.s [105, 110]))]),
    .o 148 (.build [(.int .i64 0), (.int .i64 0)] [(0, 1, (.i 0)), (1, 1, (.i 1))]),
    .o 149 (.buildSlice 1 [(.int .i64 0), (.int .i64 0)] [(0, 2, (.t 148))]),
    .o 150 (.build [(.str []), (.str []), (.str []), (.str []), (.str []), (.bool false), (.int .i64 0), (.int .i64 0), (.int .i64 0), (.int .i64 0), .nils] [(0, 5, (.t 147)), (5, 1, (.b false)), (6, 1, (.i 0)), (7, 1, (.i 254)), (8, 1, (.i 1)), (9, 1, (.i (-4))), (10, 1, (.t 149))]),
    .o 151 (.build [(.str []), (.str []), (.str []), (.str []), (.str [])] [(0, 1, (.s [91, 108, 98, 95, 97, 118, 93])), (1, 1, (.s [91, 76, 66, 95, 65, 86, 93])), (2, 1, (.s [108, 98])), (3, 1, (.s [76, 66])), (4, 1, (.s [108, 98]))]),
    .o 152 (.build [(.int .i64 0), (.int .i64 0)] [(0, 1, (.i 2)), (1, 1, (.i 1))]),
    .o 153 (.buildSlice 1 [(.int .i64 0), (.int .i64 0)] [(0, 2, (.t 152))]),
    .o 154 (.build [(.str []), (.str []), (.str []), (.str []), (.str []), (.bool false), (.int .i64 0), (.int .i64 0), (.int .i64 0), (.int .i64 0), .nils] [(0, 5, (.t 151)), (5, 1, (.b false)), (6, 1, (.i 0)), (7, 1, (.i 45359237)), (8, 1, (.i 1)), (9, 1, (.i (-5))), (10, 1, (.t 153))]),
    .o 155 (.build [(.str []), (.str []), (.str []), (.str []), (.str [])] [(0, 1, (.s [91, 112, 72, 93])), (1, 1, (.s [91, 80, 72, 93])), (2, 1, (.s [112, 72])), (3, 1, (.s [])), (4, 1, (.s []))]),
    .o 156 (.build [(.int .i64 0), (.int .i64 0)] [(0, 1, (.i 8)), (1, 1, (.i 1))]),
    .o 157 (.build [(.int .i64 0), (.int .i64 0)] [(0, 1, (.i 29)), (1, 1, (.i (-1)))]),
    .o 158 (.buildSlice 2 [(.int .i64 0), (.int .i64 0), (.int .i64 0), (.int .i64 0)] [(0, 2, (.t 156)), (2, 2, (.t 157))]),
    .o 159 (.build [(.str []), (.str []), (.str []), (.str []), (.str []), (.bool false), (.int .i64 0), (.int .i64 0), (.int .i64 0), (.int .i64 0), .nils] [(0, 5, (.t 155)), (5, 1, (.b false)), (6, 1, (.i 2)), (7, 1, (.i 1)), (8, 1, (.i 1)), (9, 1, (.i 0)), (10, 1, (.t 158))]),
    .o 160 (.build [(.str []), (.str []), (.str []), (.str []), (.str [])] [(0, 1, (.s [66])), (1, 1, (.s [66])), (2, 1, (.s [66])), (3, 1, (.s [])), (4, 1, (.s []))]),
    .o 161 (.build [(.str []), (.str []), (.str []), (.str []), (.str []), (.bool false), (.int .i64 0), (.int .i64 0), (.int .i64 0), (.int .i64 0), .nils] [(0, 5, (.t 160)), (5, 1, (.b true)), (6, 1, (.i 3)), (7, 1, (.i 1)), (8, 1, (.i 1)), (9, 1, (.i 0)), (10, 1, (.const .nils))]),
    .o 162 (.build [(.str []), (.str []), (.str []), (.str []), (.str [])] [(0, 1, (.s [91, 105, 85, 93])), (1, 1, (.s [91, 73, 85, 93])), (2, 1, (.s [73, 85])), (3, 1, (.s [])), (4, 1, (.s [73, 85]))]),
    .o 163 (.build [(.str []), (.str []), (.str []), (.str []), (.str []), (.bool false), (.int .i64 0), (.int .i64 0), (.int .i64 0), (.int .i64 0), .nils] [(0, 5, (.t 162)), (5, 1, (.b true)), (6, 1, (.i 0)), (7, 1, (.i 1)), (8, 1, (.i 1)), (9, 1, (.i 0)), (10, 1, (.const .nils))]),
    .o 164 (.build [(.str []), (.str []), (.str []), (.str []), (.str [])] [(0, 1, (.s [101, 113])), (1, 1, (.s [69, 81])), (2, 1, (.s [101, 113])), (3, 1, (.s [69, 81])), (4, 1, (.s [101, 113]))]),
    .o 165 (.build [(.int .i64 0), (.int .i64 0)] [(0, 1, (.i 8)), (1, 1, (.i 1))]),
    .o 166 (.buildSlice 1 [(.int .i64 0), (.int .i64 0)] [(0, 2, (.t 165))]),
    .o 167 (.build [(.str []), (.str []), (.str []), (.str []), (.str []), (.bool false), (.int .i64 0), (.int .i64 0), (.int .i64 0), (.int .i64 0), .nils] [(0, 5, (.t 164)), (5, 1, (.b true)), (6, 1, (.i 0)), (7, 1, (.i 1)), (8, 1, (.i 1)), (9, 1, (.i 0)), (10, 1, (.t 166))]),
    .o 168 (.build [(.str []), (.str []), (.str []), (.str []), (.str [])] [(0, 1, (.s [111, 115, 109])), (1, 1, (.s [79, 83, 77])), (2, 1, (.s [111, 115, 109])), (3, 1, (.s [79, 83, 77])), (4, 1, (.s [111, 115, 109]))]),
    .o 169 (.build [(.int .i64 0), (.int .i64 0)] [(0, 1, (.i 8)), (1, 1, (.i 1))]),
    .o 170 (.buildSlice 1 [(.int .i64 0), (.int .i64 0)] [(0, 2, (.t 169))]),
    .o 171 (.build [(.str []), (.str []), (.str []), (.str []), (.str []), (.bool false), (.int .i64 0), (.int .i64 0), (.int .i64 0), (.int .i64 0), .nils] [(0, 5, (.t 168)), (5, 1, (.b true)), (6, 1, (.i 0)), (7, 1, (.i 1)), (8, 1, (.i 1)), (9, 1, (.i 0)), (10, 1, (.t 170))]),
    .o 172 (.build [(.str []), (.str []), (.str []), (.str []), (.str [])] [(0, 1, (.s [107, 97, 116])), (1, 1, (.s [75, 65, 84])), (2, 1, (.s [107, 97, 116])), (3, 1, (.s [75, 65, 84])), (4, 1, (.s [107, 97, 116]))]),
    .o 173 (.build [(.int .i64 0), (.int .i64 0)] [(0, 1, (.i 8)), (1, 1, (.i 1))]),
    .o 174 (.build [(.int .i64 0), (.int .i64 0)] [(0, 1, (.i 1)), (1, 1, (.i (-1)))]),
    .o 175 (.buildSlice 2 [(.int .i64 0), (.int .i64 0), (.int .i64 0), (.int .i64 0)] [(0, 2, (.t 173)), (2, 2, (.t 174))]),
    .o 176 (.build [(.str []), (.str []), (.str []), (.str []), (.str []), (.bool false), (.int .i64 0), (.int .i64 0), (.int .i64 0), (.int .i64 0), .nils] [(0, 5, (.t 172)), (5, 1, (.b true)), (6, 1, (.i 0)), (7, 1, (.i 1)), (8, 1, (.i 1)), (9, 1, (.i 0)), (10, 1, (.t 175))]),
    .o 177 (.build [(.str []), (.str []), (.str []), (.str []), (.str [])] [(0, 1, (.s [117])), (1, 1, (.s [65, 77, 85])), (2, 1, (.s [117])), (3, 1, (.s [85])), (4, 1, (.s [117]))]),
    .o 178 (.build [(.int .i64 0), (.int .i64 0)] [(0, 1, (.i 2)), (1, 1, (.i 1))]),
    .o 179 (.buildSlice 1 [(.int .i64 0), (.int .i64 0)] [(0, 2, (.t 178))]),
    .o 180 (.build [(.str []), (.str []), (.str []), (.str []), (.str []), (.bool false), (.int .i64 0), (.int .i64 0), (.int .i64 0), (.int .i64 0), .nils] [(0, 5, (.t 177)), (5, 1, (.b true)), (6, 1, (.i 0)), (7, 1, (.i 16605390666)), (8, 1, (.i 1)), (9, 1, (.i (-34))), (10, 1, (.t 179))]),
    .o 181 (.build [(.str []), (.str []), (.str []), (.str []), (.str [])] [(0, 1, (.s [101, 86])), (1, 1, (.s [69, 86])), (2, 1, (.s [101, 86])), (3, 1, (.s [69, 86])), (4, 1, (.s [101, 86]))]),
    .o 182 (.build [(.int .i64 0), (.int .i64 0)] [(0, 1, (.i 13)), (1, 1, (.i 1))]),
    .o 183 (.buildSlice 1 [(.int .i64 0), (.int .i64 0)] [(0, 2, (.t 182))]),
    .o 184 (.build [(.str []), (.str []), (.str []), (.str []), (.str []), (.bool false), (.int .i64 0), (.int .i64 0), (.int .i64 0), (.int .i64 0), .nils] [(0, 5, (.t 181)), (5, 1, (.b true)), (6, 1, (.i 0)), (7, 1, (.i 1602176634)), (8, 1, (.i 1)), (9, 1, (.i (-28))), (10, 1, (.t 183))]),
    .o 185 (.build [(.str []), (.str []), (.str []), (.str []), (.str [])] [(0, 1, (.s [91, 100, 114, 95, 97, 118, 93])), (1, 1, (.s [91, 68, 82, 95, 65, 86, 93])), (2, 1, (.s [100, 114])), (3, 1, (.s [])), (4, 1, (.s [100, 114]))]),
    .o 186 (.build [(.int .i64 0), (.int .i64 0)] [(0, 1, (.i 38)), (1, 1, (.i 1))]),
    .o 187 (.buildSlice 1 [(.int .i64 0), (.int .i64 0)] [(0, 2, (.t 186))]),
    .o 188 (.build [(.str []), (.str []), (.str []), (.str []), (.str []), (.bool false), (.int .i64 0), (.int .i64 0), (.int .i64 0), (.int .i64 0), .nils] [(0, 5, (.t 185)), (5, 1, (.b false)), (6, 1, (.i 0)), (7, 1, (.i 1)), (8, 1, (.i 256)), (9, 1, (.i 0)), (10, 1, (.t 187))]),
    .o 189 (.build [(.str []), (.str []), (.str []), (.str []), (.str []), (.bool false), (.int .i64 0), (.int .i64 0), (.int .i64 0), (.int .i64 0), .nils, (.str []), (.str []), (.str []), (.str []), (.str []), (.bool false), (.int .i64 0), (.int .i64 0), (.int .i64 0), (.int .i64 0), .nils, (.str []), (.str []), (.str []), (.str []), (.str []), (.bool false), (.int .i64 0), (.int .i64 0), (.int .i64 0), (.int .i64 0), .nils, (.str []), (.str []), (.str []), (.str []), (.str []), (.bool false), (.int .i64 0), (.int .i64 0), (.int .i64 0), (.int .i64 0), .nils, (.str []), (.str []), (.str []), (.str []), (.str []), (.bool false), (.int .i64 0), (.int .i64 0), (.int .i64 0), (.int .i64 0), .nils, (.str []), (.str []), (.str []), (.str []), (.str []), (.bool false), (.int .i64 0), (.int .i64 0), (.int .i64 0), (.int .i64 0), .nils, (.str []), (.str []), (.str []), (.str []), (.str []), (.bool false), (.int .i64 0), (.int .i64 0), (.int .i64 0), (.int .i64 0), .nils, (.str []), (.str []), (.str []), (.str []), (.str []), (.bool false), (.int .i64 0), (.int .i64 0), (.int .i64 0), (.int .i64 0), .nils, (.str []), (.str []), (.str []), (.str []), (.str []), (.bool false), (.int .i64 0), (.int .i64 0), (.int .i64 0), (.int .i64 0), .nils, (.str []), (.str []), (.str []), (.str []), (.str []), (.bool false), (.int .i64 0), (.int .i64 0), (.int .i64 0), (.int .i64 0), .nils, (.str []), (.str []), (.str []), (.str []), (.str []), (.bool false), (.int .i64 0), (.int .i64 0), (.int .i64 0), (.int .i64 0), .nils, (.str []), (.str []), (.str []), (.str []), (.str []), (.bool false), (.int .i64 0), (.int .i64 0), (.int .i64 0), (.int .i64 0), .nils, (.str []), (.str []), (.str []), (.str []), (.str []), (.bool false), (.int .i64 0), (.int .i64 0), (.int .i64 0), (.int .i64 0), .nils, (.str []), (.str []), (.str []), (.str []), (.str []), (.bool false), (.int .i64 0), (.int .i64 0), (.int .i64 0), (.int .i64 0), .nils, (.str []), (.str []), (.str []), (.str []), (.str []), (.bool false), (.int .i64 0), (.int .i64 0), (.int .i64 0), (.int .i64 0), .nils, (.str []), (.str []), (.str []), (.str []), (.str []), (.bool false), (.int .i64 0), (.int .i64 0), (.int .i64 0), (.int .i64 0), .nils, (.str []), (.str []), (.str []), (.str []), (.str []), (.bool false), (.int .i64 0), (.int .i64 0), (.int .i64 0), (.int .i64 0), .nils, (.str []), (.str []), (.str []), (.str []), (.str []), (.bool false), (.int .i64 0), (.int .i64 0), (.int .i64 0), (.int .i64 0), .nils, (.str []), (.str []), (.str []), (.str []), (.str []), (.bool false), (.int .i64 0), (.int .i64 0), (.int .i64 0), (.int .i64 0), .nils, (.str []), (.str []), (.str []), (.str []), (.str []), (.bool false), (.int .i64 0), (.int .i64 0), (.int .i64 0), (.int .i64 0), .nils, (.str []), (.str []), (.str []), (.str []), (.str []), (.bool false), (.int .i64 0), (.int .i64 0), (.int .i64 0), (.int .i64 0), .nils, (.str []), (.str []), (.str []), (.str []), (.str []), (.bool false), (.int .i64 0), (.int .i64 0), (.int .i64 0), (.int .i64 0), .nils, (.str []), (.str []), (.str []), (.str []), (.str []), (.bool false), (.int .i64 0), (.int .i64 0), (.int .i64 0), (.int .i64 0), .nils, (.str []), (.str []), (.str []), (.str []), (.str []), (.bool false), (.int .i64 0), (.int .i64 0), (.int .i64 0), (.int .i64 0), .nils, (.str []), (.str []), (.str []), (.str []), (.str []), (.bool false), (.int .i64 0), (.int .i64 0), (.int .i64 0), (.int .i64 0), .nils, (.str []), (.str []), (.str []), (.str []), (.str []), (.bool false), (.int .i64 0), (.int .i64 0), (.int .i64 0), (.int .i64 0), .nils, (.str []), (.str []), (.str []), (.str []), (.str []), (.bool false), (.int .i64 0), (.int .i64 0), (.int .i64 0), (.int .i64 0), .nils, (.str []), (.str []), (.str []), (.str []), (.str []), (.bool false), (.int .i64 0), (.int .i64 0), (.int .i64 0), (.int .i64 0), .nils, (.str []), (.str []), (.str []), (.str []), (.str []), (.bool false), (.int .i64 0), (.int .i64 0), (.int .i64 0), (.int .i64 0), .nils, (.str []), (.str []), (.str []), (.str []), (.str []), (.bool false), (.int .i64 0), (.int .i64 0), (.int .i64 0), (.int .i64 0), .nils, (.str []), (.str []), (.str []), (.str []), (.str []), (.bool false), (.int .i64 0), (.int .i64 0), (.int .i64 0), (.int .i64 0), .nils, (.str []), (.str []), (.str []), (.str []), (.str []), (.bool false), (.int .i64 0), (.int .i64 0), (.int .i64 0), (.int .i64 0), .nils, (.str []), (.str []), (.str []), (.str []), (.str []), (.bool false), (.int .i64 0), (.int .i64 0), (.int .i64 0), (.int .i64 0), .nils, (.str []), (.str []), (.str []), (.str []), (.str []), (.bool false), (.int .i64 0), (.int .i64 0), (.int .i64 0), (.int .i64 0), .nils, (.str []), (.str []), (.str []), (.str []), (.str []), (.bool false), (.int .i64 0), (.int .i64 0), (.int .i64 0), (.int .i64 0), .nils, (.str []), (.str []), (.str []), (.str []), (.str []), (.bool false), (.int .i64 0), (.int .i64 0), (.int .i64 0), (.int .i64 0), .nils, (.str []), (.str []), (.str []), (.str []), (.str []), (.bool false), (.int .i64 0), (.int .i64 0), (.int .i64 0), (.int .i64 0), .nils, (.str []), (.str []), (.str []), (.str []), (.str []), (.bool false), (.int .i64 0), (.int .i64 0), (.int .i64 0), (.int .i64 0), .nils, (.str []), (.str []), (.str []), (.str []), (.str []), (.bool false), (.int .i64 0), (.int .i64 0), (.int .i64 0), (.int .i64 0), .nils, (.str []), (.str []), (.str []), (.str []), (.str []), (.bool false), (.int .i64 0), (.int .i64 0), (.int .i64 0), (.int .i64 0), .nils, (.str []), (.str []), (.str []), (.str []), (.str []), (.bool false), (.int .i64 0), (.int .i64 0), (.int .i64 0), (.int .i64 0), .nils, (.str []), (.str []), (.str []), (.str []), (.str []), (.bool false), (.int .i64 0), (.int .i64 0), (.int .i64 0), (.int .i64 0), .nils, (.str []), (.str []), (.str []), (.str []), (.str []), (.bool false), (.int .i64 0), (.int .i64 0), (.int .i64 0), (.int .i64 0), .nils, (.str []), (.str []), (.str []), (.str []), (.str []), (.bool false), (.int .i64 0), (.int .i64 0), (.int .i64 0), (.int .i64 0), .nils, (.str []), (.str []), (.str []), (.str []), (.str []), (.bool false), (.int .i64 0), (.int .i64 0), (.int .i64 0), (.int .i64 0), .nils, (.str []), (.str []), (.str []), (.str []), (.str []), (.bool false), (.int .i64 0), (.int .i64 0), (.int .i64 0), (.int .i64 0), .nils, (.str []), (.str []), (.str []), (.str []), (.str []), (.bool false), (.int .i64 0), (.int .i64 0), (.int .i64 0), (.int .i64 0), .nils, (.str []), (.str []), (.str []), (.str []), (.str []), (.bool false), (.int .i64 0), (.int .i64 0), (.int .i64 0), (.int .i64 0), .nils] [(0, 11, (.t 2)), (11, 11, (.t 4)), (22, 11, (.t 6)), (33, 11, (.t 8)), (44, 11, (.t 10)), (55, 11, (.t 12)), (66, 11, (.t 14)), (77, 11, (.t 16)), (88, 11, (.t 18)), (99, 11, (.t 22)), (110, 11, (.t 26)), (121, 11, (.t 32)), (132, 11, (.t 37)), (143, 11, (.t 42)), (154, 11, (.t 47)), (165, 11, (.t 52)), (176, 11, (.t 57)), (187, 11, (.t 62)), (198, 11, (.t 67)), (209, 11, (.t 71)), (220, 11, (.t 76)), (231, 11, (.t 80)), (242, 11, (.t 85)), (253, 11, (.t 90)), (264, 11, (.t 95)), (275, 11, (.t 100)), (286, 11, (.t 104)), (297, 11, (.t 109)), (308, 11, (.t 114)), (319, 11, (.t 118)), (330, 11, (.t 122)), (341, 11, (.t 126)), (352, 11, (.t 130)), (363, 11, (.t 134)), (374, 11, (.t 138)), (385, 11, (.t 142)), (396, 11, (.t 146)), (407, 11, (.t 150)), (418, 11, (.t 154)), (429, 11, (.t 159)), (440, 11, (.t 161)), (451, 11, (.t 163)), (462, 11, (.t 167)), (473, 11, (.t 171)), (484, 11, (.t 176)), (495, 11, (.t 180)), (506, 11, (.t 184)), (517, 11, (.t 188))]),
    .n (.store 528 (.t 0) (.t 189))])
  (.ret q57)))⟩
abbrev q58 : List Bool := [Z,Z,X,Z,Z,Z,Z,Z]
def r58 (t2 : AV) : Fr := ⟨[J,J,t2,J,J,J,J,J], [], .call⟩
/-- slices.Clone[[]drachm/api.Term,drachm/api.Term] -/
def f58 : SFunc := ⟨.closed, 8, [(.tmp 2)],
  (.seq (.region false [
    .o 2 (.mov (.const .nils))])
  (.seq (.seq (.region false [
    .m 3 0,
    .o 4 (.isNil .slc .eql (.t 3))])
  (.cond (.t 4)
  (.seq (.region false [
    .o 2 (.mov (.const .nils))])
  (.ret q58))
  .skip))
  (.seq (.region false [
    .o 5 (.buildSlice 0 [] []),
    .m 6 0,
    .o 7 (.append 2 16 (.t 5) (.t 6)),
    .m 2 7])
  (.ret q58))))⟩
abbrev q59_0 : List Bool := [Z,Z,Z,Z,Z,Z,Z,Z,Z,Z,Z,Z,Z,Z,Z,Z,Z,Z,Z]
abbrev q59 : List Bool := [Z,Z,Z,Z,X,Z,Z,Z,Z,Z,Z,Z,Z,Z,Z,Z,Z,Z,Z]
def r59 (t4 : AV) : Fr := ⟨[J,J,J,J,t4,J,J,J,J,J,J,J,J,J,J,J,J,J,J], [], .call⟩
abbrev q59_1 : List Bool := [X,X,Z,Z,Z,Z,Z,X,X,Z,Z,Z,Z,Z,Z,Z,Z,Z,Z]
def x59_1 (t0 t1 t7 t8 : AV) : Fr := ⟨[t0,t1,J,J,J,J,J,t7,t8,J,J,J,J,J,J,J,J,J,J], [], .call⟩
abbrev k59_0 : List Bool := [X,X,Z,Z,Z,Z,Z,X,X,Z,Z,Z,Z,Z,Z,Z,Z,Z,Z]
def l59_0 : SCode := (.seq (.region false [
    .o 9 (.bin .lss .none (.t 8) (.t 7))])
  (.seq (.cond (.t 9)
  .skip
  (.exit 0 q59_0))
  (.seq (.block 1 q59_1
  (.seq (.region false [
    .m 10 8,
    .m 5 10])
  (.seq (.region false [
    .m 11 1,
    .m 12 0,
    .m 13 5,
    .o 14 (.indexAddrVs 12 (.t 12) (.t 13)),
    .o 15 (.load true 12 (.t 14)),
    .o 16 (.call (.t 11) [(.t 15)])])
  (.cond (.t 16)
  (.seq (.region false [
    .m 17 5,
    .m 4 17])
  (.ret q59))
  .skip))))
  (.region false [
    .o 18 (.bin .add .none (.t 8) (.i 1)),
    .m 8 18]))))
def s59_0 (t0 t1 t7 t8 : AV) : Fr := ⟨[t0,t1,J,J,J,J,J,t7,t8,J,J,J,J,J,J,J,J,J,J], [], .call⟩
def x59_0 : Fr := ⟨[J,J,J,J,J,J,J,J,J,J,J,J,J,J,J,J,J,J,J], [], .call⟩
/-- slices.IndexFunc[[]drachm/api.Atom,drachm/api.Atom] -/
def f59 : SFunc := ⟨.reader, 19, [(.tmp 4)],
  (.seq (.region false [
    .o 4 (.mov (.i 0))])
  (.seq (.seq (.region false [
    .m 6 0,
    .o 7 (.len .slc (.t 6)),
    .o 8 (.mov (.i 0))])
  (.block 0 q59_0
  (.loop k59_0 l59_0)))
  (.seq (.region false [
    .o 4 (.mov (.i (-1)))])
  (.ret q59))))⟩
abbrev q60 : List Bool := [Z,Z,Z,Z,X,Z,Z,Z,Z,Z,Z,Z,Z]
def r60 (t4 : AV) : Fr := ⟨[J,J,J,J,t4,J,J,J,J,J,J,J,J], [], .call⟩
/-- (drachm/symbol.book).atom$1 -/
def f60 : SFunc := ⟨.reader, 13, [(.tmp 4)],
  (.seq (.region false [
    .o 3 (.box 12 (.t 0)),
    .o 4 (.mov (.b false))])
  (.seq (.region true [
    .o 5 (.fieldAddr 2 (.t 1)),
    .o 6 (.load false 1 (.t 5)),
    .o 7 (.bin .sub .none (.t 6) (.i 1)),
    .o 8 (.fieldAddr 0 (.t 3)),
    .o 9 (.indexAddrArr 5 1 (.t 8) (.t 7)),
    .o 10 (.load false 1 (.t 9)),
    .o 11 (.load false 1 (.t 2)),
    .o 12 (.bin .eql .none (.t 10) (.t 11)),
    .m 4 12])
  (.ret q60)))⟩
abbrev q61 : List Bool := [Z,Z,Z,Z,X,X,Z,Z,Z,Z,Z,Z,Z,Z,Z]
def r61 (t4 t5 : AV) : Fr := ⟨[J,J,J,J,t4,t5,J,J,J,J,J,J,J,J,J], [], .call⟩
/-- internal/stringslite.CutPrefix -/
def f61 : SFunc := ⟨.closed, 15, [(.tmp 4), (.tmp 5)],
  (.seq (.region false [
    .o 4 (.mov (.s [])),
    .o 5 (.mov (.b false))])
  (.seq (.seq (.region false [
    .m 6 0,
    .m 7 1,
    .o 8 (.call (.f 75) [(.t 6), (.t 7)]),
    .o 9 (.un .not (.t 8))])
  (.cond (.t 9)
  (.seq (.region false [
    .m 10 0,
    .m 4 10,
    .o 5 (.mov (.b false))])
  (.ret q61))
  .skip))
  (.seq (.region false [
    .m 11 0,
    .m 12 1,
    .o 13 (.len .str (.t 12)),
    .o 14 (.sliceStr (.t 11) (some (.t 13)) none),
    .m 4 14,
    .o 5 (.mov (.b true))])
  (.ret q61))))⟩
abbrev q62 : List Bool := [Z,Z,Z,Z,X,Z,Z,Z,Z,Z,Z,Z,Z,Z,Z,Z,Z,Z,Z,Z,Z,Z,Z,Z,Z,Z,Z,Z,Z,Z,Z,Z,Z,Z,Z,Z,Z,Z,Z,Z,Z,Z,Z,Z,Z,Z,Z,Z,Z,Z,Z,Z,Z,Z,Z,Z,Z,Z,Z,Z,Z,Z,Z,Z,Z,Z,Z,Z,Z,Z]
def r62 (t4 : AV) : Fr := ⟨[J,J,J,J,t4,J,J,J,J,J,J,J,J,J,J,J,J,J,J,J,J,J,J,J,J,J,J,J,J,J,J,J,J,J,J,J,J,J,J,J,J,J,J,J,J,J,J,J,J,J,J,J,J,J,J,J,J,J,J,J,J,J,J,J,J,J,J,J,J,J], [], .call⟩
abbrev q62_1 : List Bool := [Z,Z,Z,Z,Z,Z,Z,Z,Z,Z,Z,Z,Z,Z,Z,Z,Z,Z,Z,Z,Z,Z,Z,Z,Z,Z,Z,Z,Z,Z,Z,Z,Z,Z,Z,Z,Z,Z,Z,Z,Z,Z,Z,Z,Z,Z,Z,Z,Z,Z,Z,Z,Z,Z,Z,Z,Z,Z,Z,Z,Z,Z,Z,Z,Z,Z,Z,Z,Z,Z]
abbrev q62_2 : List Bool := [Z,Z,Z,Z,Z,Z,Z,Z,Z,Z,Z,Z,Z,Z,Z,Z,Z,Z,Z,Z,Z,Z,Z,Z,Z,Z,Z,Z,Z,Z,Z,Z,Z,Z,Z,Z,Z,Z,Z,Z,Z,Z,Z,Z,Z,Z,Z,Z,Z,Z,Z,Z,Z,Z,Z,Z,Z,Z,Z,Z,Z,Z,Z,Z,Z,Z,Z,Z,Z,Z]
abbrev q62_3 : List Bool := [Z,Z,Z,Z,Z,Z,Z,Z,Z,Z,Z,Z,Z,Z,Z,Z,Z,Z,Z,Z,Z,Z,Z,Z,Z,Z,Z,Z,Z,Z,Z,Z,Z,Z,Z,Z,Z,Z,Z,Z,Z,Z,Z,Z,Z,Z,Z,Z,Z,Z,Z,Z,Z,Z,Z,Z,Z,Z,Z,Z,Z,Z,Z,Z,Z,Z,Z,Z,Z,Z]
abbrev q62_0 : List Bool := [Z,X,Z,Z,Z,X,Z,Z,Z,Z,Z,Z,Z,Z,Z,Z,Z,Z,Z,Z,Z,Z,Z,Z,Z,Z,Z,Z,Z,Z,Z,Z,Z,Z,Z,Z,Z,Z,Z,Z,Z,Z,Z,Z,Z,Z,Z,Z,Z,Z,Z,Z,Z,Z,Z,Z,Z,Z,Z,Z,Z,Z,Z,Z,Z,Z,Z,Z,Z,Z]
def x62_1 : Fr := ⟨[J,J,J,J,J,J,J,J,J,J,J,J,J,J,J,J,J,J,J,J,J,J,J,J,J,J,J,J,J,J,J,J,J,J,J,J,J,J,J,J,J,J,J,J,J,J,J,J,J,J,J,J,J,J,J,J,J,J,J,J,J,J,J,J,J,J,J,J,J,J], [], .call⟩
def x62_2 : Fr := ⟨[J,J,J,J,J,J,J,J,J,J,J,J,J,J,J,J,J,J,J,J,J,J,J,J,J,J,J,J,J,J,J,J,J,J,J,J,J,J,J,J,J,J,J,J,J,J,J,J,J,J,J,J,J,J,J,J,J,J,J,J,J,J,J,J,J,J,J,J,J,J], [], .call⟩
def x62_3 : Fr := ⟨[J,J,J,J,J,J,J,J,J,J,J,J,J,J,J,J,J,J,J,J,J,J,J,J,J,J,J,J,J,J,J,J,J,J,J,J,J,J,J,J,J,J,J,J,J,J,J,J,J,J,J,J,J,J,J,J,J,J,J,J,J,J,J,J,J,J,J,J,J,J], [], .call⟩
def x62_0 (t1 t5 : AV) : Fr := ⟨[J,t1,J,J,J,t5,J,J,J,J,J,J,J,J,J,J,J,J,J,J,J,J,J,J,J,J,J,J,J,J,J,J,J,J,J,J,J,J,J,J,J,J,J,J,J,J,J,J,J,J,J,J,J,J,J,J,J,J,J,J,J,J,J,J,J,J,J,J,J,J], [], .call⟩
abbrev q62_4 : List Bool := [Z,Z,Z,Z,Z,Z,Z,Z,Z,Z,Z,Z,Z,Z,Z,Z,Z,Z,Z,Z,Z,Z,Z,Z,Z,Z,Z,Z,Z,Z,Z,Z,Z,Z,Z,Z,Z,Z,Z,Z,Z,Z,Z,Z,Z,Z,Z,Z,Z,Z,Z,Z,Z,Z,Z,Z,Z,Z,Z,Z,Z,Z,Z,Z,Z,Z,Z,Z,Z,Z]
def x62_4 : Fr := ⟨[J,J,J,J,J,J,J,J,J,J,J,J,J,J,J,J,J,J,J,J,J,J,J,J,J,J,J,J,J,J,J,J,J,J,J,J,J,J,J,J,J,J,J,J,J,J,J,J,J,J,J,J,J,J,J,J,J,J,J,J,J,J,J,J,J,J,J,J,J,J], [], .call⟩
/-- drachm/style.Kind -/
def f62 : SFunc := ⟨.closed, 70, [(.tmp 4)],
  (.seq (.region false [
    .o 4 (.mov (.i 0))])
  (.seq (.region false [
    .m 8 0,
    .o 9 (.call (.f 44) [(.t 8)]),
    .m 7 9,
    .o 10 (.extract 0 (.t 7)),
    .o 11 (.extract 1 (.t 7)),
    .o 5 (.alloc [(.bool false), (.int .u8 0), (.int .u8 0), (.int .u8 0), (.int .u8 0), (.int .u8 0)]),
    .n (.store 6 (.t 5) (.t 10)),
    .m 6 11])
  (.seq (.seq (.region false [
    .m 12 6,
    .o 13 (.un .not (.t 12)),
    .m 14 13,
    .gm 15 14 false 1,
    .g 16 14 false (.bin .eql .none (.t 15) (.const (.int .u8 0))),
    .o 17 (.pick (.t 14) (.b true) (.t 16))])
  (.cond (.t 17)
  (.seq (.region false [
    .o 4 (.mov (.i 0))])
  (.ret q62))
  .skip))
  (.seq (.block 0 q62_0
  (.seq (.block 3 q62_3
  (.seq (.block 2 q62_2
  (.block 1 q62_1
  (.seq (.seq (.seq (.region false [
    .m 19 1,
    .o 20 (.bin .leq .none (.const (.int .u8 97)) (.t 19)),
    .m 21 20,
    .gm 22 21 true 1,
    .g 23 21 true (.bin .leq .none (.t 22) (.const (.int .u8 122))),
    .o 24 (.pick (.t 21) (.t 23) (.b false)),
    .m 18 24])
  (.cond (.t 18)
  (.exit 1 q62_1)
  .skip))
  (.seq (.seq (.seq (.region false [
    .m 26 1,
    .o 27 (.bin .leq .none (.const (.int .u8 65)) (.t 26)),
    .m 28 27,
    .gm 29 28 true 1,
    .g 30 28 true (.bin .leq .none (.t 29) (.const (.int .u8 90))),
    .o 31 (.pick (.t 28) (.t 30) (.b false)),
    .m 25 31])
  (.cond (.t 25)
  .skip
  (.region false [
    .m 32 1,
    .o 33 (.call (.f 66) [(.s [37, 39, 95, 91, 93]), (.t 32)]),
    .o 34 (.bin .geq .none (.t 33) (.i 0)),
    .m 25 34])))
  (.cond (.t 25)
  (.exit 2 q62_2)
  .skip))
  (.seq (.region false [
    .m 36 1,
    .o 37 (.bin .leq .none (.const (.int .u8 48)) (.t 36)),
    .m 38 37,
    .gm 39 38 true 1,
    .g 40 38 true (.bin .leq .none (.t 39) (.const (.int .u8 57))),
    .o 41 (.pick (.t 38) (.t 40) (.b false)),
    .m 35 41])
  (.cond (.t 35)
  (.exit 3 q62_3)
  .skip))))
  (.exit 0 q62_0))))
  (.seq (.seq (.region false [
    .o 4 (.mov (.i 1))])
  (.ret q62))
  (.exit 0 q62_0))))
  (.seq (.seq (.region false [
    .o 4 (.mov (.i 2))])
  (.ret q62))
  (.exit 0 q62_0))))
  (.seq (.seq (.region false [
    .m 42 1])
  (.block 4 q62_4
  (.seq (.seq (.region false [
    .o 44 (.bin .eql .none (.t 42) (.const (.int .u8 43))),
    .m 43 44])
  (.cond (.t 43)
  .skip
  (.region false [
    .o 45 (.bin .eql .none (.t 42) (.const (.int .u8 45))),
    .m 43 45])))
  (.cond (.t 43)
  (.seq (.region false [
    .o 4 (.mov (.i 3))])
  (.ret q62))
  (.seq (.region false [
    .o 47 (.bin .eql .none (.t 42) (.const (.int .u8 40))),
    .m 46 47])
  (.cond (.t 46)
  (.seq (.region false [
    .o 4 (.mov (.i 7))])
  (.ret q62))
  (.seq (.region false [
    .o 49 (.bin .eql .none (.t 42) (.const (.int .u8 41))),
    .m 48 49])
  (.cond (.t 48)
  (.seq (.region false [
    .o 4 (.mov (.i 8))])
  (.ret q62))
  (.seq (.region false [
    .o 51 (.fieldAddr 1 (.t 5)),
    .o 52 (.load false 1 (.t 51)),
    .o 53 (.bin .eql .none (.t 42) (.t 52)),
    .m 50 53])
  (.cond (.t 50)
  (.seq (.region false [
    .o 4 (.mov (.i 4))])
  (.ret q62))
  (.seq (.region false [
    .o 55 (.fieldAddr 2 (.t 5)),
    .o 56 (.load false 1 (.t 55)),
    .o 57 (.bin .eql .none (.t 42) (.t 56)),
    .m 54 57])
  (.cond (.t 54)
  (.seq (.region false [
    .o 4 (.mov (.i 5))])
  (.ret q62))
  (.seq (.region false [
    .o 59 (.fieldAddr 3 (.t 5)),
    .o 60 (.load false 1 (.t 59)),
    .o 61 (.bin .eql .none (.t 42) (.t 60)),
    .m 58 61])
  (.cond (.t 58)
  (.seq (.region false [
    .o 4 (.mov (.i 6))])
  (.ret q62))
  (.seq (.region false [
    .o 63 (.fieldAddr 4 (.t 5)),
    .o 64 (.load false 1 (.t 63)),
    .o 65 (.bin .eql .none (.t 42) (.t 64)),
    .m 62 65])
  (.cond (.t 62)
  (.seq (.region false [
    .o 4 (.mov (.i 9))])
  (.ret q62))
  (.seq (.region false [
    .o 67 (.fieldAddr 5 (.t 5)),
    .o 68 (.load false 1 (.t 67)),
    .o 69 (.bin .eql .none (.t 42) (.t 68)),
    .m 66 69])
  (.cond (.t 66)
  (.seq (.region false [
    .o 4 (.mov (.i 10))])
  (.ret q62))
  .skip))))))))))))))))))
  (.seq (.region false [
    .o 4 (.mov (.i 0))])
  (.ret q62)))))))⟩
abbrev q63_0 : List Bool := [Z,Z,Z,Z,Z,Z,Z,Z,X,Z,Z,Z,Z,Z,Z,Z,Z,Z,Z,Z,Z,Z]
abbrev q63_1 : List Bool := [Z,X,Z,Z,Z,Z,Z,X,X,Z,Z,Z,Z,Z,Z,Z,Z,Z,Z,Z,Z,Z]
def x63_1 (t1 t7 t8 : AV) : Fr := ⟨[J,t1,J,J,J,J,J,t7,t8,J,J,J,J,J,J,J,J,J,J,J,J,J], [], .call⟩
abbrev k63_0 : List Bool := [Z,X,Z,Z,Z,Z,Z,X,X,Z,Z,Z,Z,Z,Z,Z,Z,Z,Z,Z,Z,Z]
def l63_0 : SCode := (.seq (.seq (.region false [
    .m 10 8,
    .m 11 1,
    .o 12 (.len .str (.t 11)),
    .o 13 (.bin .lss .none (.t 10) (.t 12))])
  (.cond (.t 13)
  .skip
  (.exit 0 q63_0)))
  (.block 1 q63_1
  (.seq (.seq (.region false [
    .m 14 7,
    .m 15 1,
    .m 16 8,
    .o 17 (.indexStr (.t 15) (.t 16)),
    .o 18 (.call (.t 14) [(.t 17)])])
  (.cond (.t 18)
  (.exit 0 q63_0)
  .skip))
  (.region false [
    .m 19 8,
    .o 20 (.bin .add .none (.t 19) (.i 1)),
    .m 8 20]))))
def s63_0 (t1 t7 t8 : AV) : Fr := ⟨[J,t1,J,J,J,J,J,t7,t8,J,J,J,J,J,J,J,J,J,J,J,J,J], [], .call⟩
def x63_0 (t8 : AV) : Fr := ⟨[J,J,J,J,J,J,J,J,t8,J,J,J,J,J,J,J,J,J,J,J,J,J], [], .call⟩
abbrev q63 : List Bool := [Z,Z,Z,Z,Z,Z,X,Z,Z,Z,Z,Z,Z,Z,Z,Z,Z,Z,Z,Z,Z,Z]
def r63 (t6 : AV) : Fr := ⟨[J,J,J,J,J,J,t6,J,J,J,J,J,J,J,J,J,J,J,J,J,J,J], [], .call⟩
/-- drachm/lex.run -/
def f63 : SFunc := ⟨.closed, 22, [(.tmp 6)],
  (.seq (.region false [
    .o 3 (.box 1 (.t 0)),
    .o 5 (.box 1 (.t 2)),
    .o 6 (.mov (.i 0))])
  (.scope (.seq (.region false [
    .o 9 (.mkFn 76 [] [(.t 3), (.t 5)]),
    .m 7 9])
  (.seq (.region false [
    .o 8 (.mov (.i 0))])
  (.seq .skip
  (.seq (.block 0 q63_0
  (.loop k63_0 l63_0))
  (.seq (.region false [
    .m 21 8,
    .m 6 21])
  (.ret q63))))))))⟩
abbrev q64 : List Bool := [Z,Z,Z,Z,X,Z,Z,Z,Z,Z,Z,Z,Z,Z,Z]
def r64 (t4 : AV) : Fr := ⟨[J,J,J,J,t4,J,J,J,J,J,J,J,J,J,J], [], .call⟩
/-- drachm/style.Raise -/
def f64 : SFunc := ⟨.closed, 15, [(.tmp 4)],
  (.seq (.region false [
    .o 4 (.mov (.s []))])
  (.seq (.region false [
    .m 8 0,
    .o 9 (.call (.f 44) [(.t 8)]),
    .m 7 9,
    .o 10 (.extract 0 (.t 7)),
    .o 11 (.extract 1 (.t 7)),
    .o 5 (.alloc [(.bool false), (.int .u8 0), (.int .u8 0), (.int .u8 0), (.int .u8 0), (.int .u8 0)]),
    .n (.store 6 (.t 5) (.t 10)),
    .m 6 11])
  (.seq (.region false [
    .m 12 1,
    .o 13 (.mkFn 78 [] [(.t 5)]),
    .o 14 (.call (.f 77) [(.t 12), (.t 13)]),
    .m 4 14])
  (.ret q64))))⟩
abbrev q65 : List Bool := [Z,Z,Z,Z,Z,Z,X,X,Z,Z,Z,Z,Z,Z,Z,Z,Z,Z,Z,Z,Z,Z,Z,Z,Z]
def r65 (t6 t7 : AV) : Fr := ⟨[J,J,J,J,J,J,t6,t7,J,J,J,J,J,J,J,J,J,J,J,J,J,J,J,J,J], [], .call⟩
/-- strconv.ParseInt -/
def f65 : SFunc := ⟨.open_, 25, [(.tmp 6), (.tmp 7)],
  (.seq (.region false [
    .o 6 (.mov (.i 0)),
    .o 7 (.mov (.const .niliface))])
  (.seq (.region false [
    .m 10 0,
    .m 11 1,
    .m 12 2,
    .o 13 (.call (.f 79) [(.t 10), (.t 11), (.t 12)]),
    .m 9 13,
    .o 14 (.extract 0 (.t 9)),
    .o 15 (.extract 1 (.t 9)),
    .m 8 14,
    .m 7 15])
  (.seq (.seq (.region false [
    .m 16 7,
    .o 17 (.bin .neq .ifc (.t 16) (.const .niliface))])
  (.cond (.t 17)
  (.seq (.region false [
    .m 18 8,
    .m 19 0,
    .m 20 1,
    .m 21 2,
    .m 22 7,
    .o 23 (.call (.f 80) [(.s [80, 97, 114, 115, 101, 73, 110, 116]), (.t 19), (.t 20), (.t 21), (.t 22)]),
    .m 6 18,
    .m 7 23])
  (.ret q65))
  .skip))
  (.seq (.region false [
    .m 24 8,
    .m 6 24,
    .o 7 (.mov (.const .niliface))])
  (.ret q65)))))⟩
abbrev q66 : List Bool := [Z,Z,Z,Z,X,Z,Z,Z]
def r66 (t4 : AV) : Fr := ⟨[J,J,J,J,t4,J,J,J], [], .call⟩
/-- strings.IndexByte -/
def f66 : SFunc := ⟨.closed, 8, [(.tmp 4)],
  (.seq (.region false [
    .o 4 (.mov (.i 0))])
  (.seq (.region false [
    .m 5 0,
    .m 6 1,
    .o 7 (.call (.f 81) [(.t 5), (.t 6)]),
    .m 4 7])
  (.ret q66)))⟩
abbrev q67_0 : List Bool := [Z,Z,Z,Z,Z,X,Z,Z,Z,Z,Z,Z,Z,Z,Z,Z,Z,Z,Z,Z,Z,Z,Z,Z,Z,Z,Z,Z,Z,Z,Z,Z,Z,Z,Z,Z,Z,Z,Z,Z,Z,Z,Z]
abbrev q67 : List Bool := [Z,Z,Z,Z,X,Z,Z,Z,Z,Z,Z,Z,Z,Z,Z,Z,Z,Z,Z,Z,Z,Z,Z,Z,Z,Z,Z,Z,Z,Z,Z,Z,Z,Z,Z,Z,Z,Z,Z,Z,Z,Z,Z]
def r67 (t4 : AV) : Fr := ⟨[J,J,J,J,t4,J,J,J,J,J,J,J,J,J,J,J,J,J,J,J,J,J,J,J,J,J,J,J,J,J,J,J,J,J,J,J,J,J,J,J,J,J,J], [], .call⟩
abbrev q67_1 : List Bool := [Z,Z,Z,Z,Z,X,Z,Z,Z,Z,Z,Z,Z,Z,Z,X,X,X,Z,Z,Z,Z,Z,Z,Z,Z,Z,Z,Z,Z,Z,Z,Z,Z,Z,Z,Z,Z,Z,Z,Z,Z,Z]
def x67_1 (t5 t15 t16 t17 : AV) : Fr := ⟨[J,J,J,J,J,t5,J,J,J,J,J,J,J,J,J,t15,t16,t17,J,J,J,J,J,J,J,J,J,J,J,J,J,J,J,J,J,J,J,J,J,J,J,J,J], [], .call⟩
abbrev k67_0 : List Bool := [Z,Z,Z,Z,Z,X,Z,Z,Z,Z,Z,Z,Z,Z,Z,X,X,X,Z,Z,Z,Z,Z,Z,Z,Z,Z,Z,Z,Z,Z,Z,Z,Z,Z,Z,Z,Z,Z,Z,Z,Z,Z]
def l67_0 : SCode := (.seq (.region false [
    .o 18 (.bin .lss .none (.t 17) (.t 16))])
  (.seq (.cond (.t 18)
  .skip
  (.exit 0 q67_0))
  (.seq (.block 1 q67_1
  (.seq (.region false [
    .o 19 (.indexAddrVs 1 (.t 15) (.t 17)),
    .o 20 (.load false 1 (.t 19)),
    .m 8 20])
  (.seq (.region false [
    .m 21 8,
    .o 22 (.bin .lss .none (.t 21) (.const (.int .u8 32))),
    .m 23 22,
    .gm 24 23 false 8,
    .g 25 23 false (.bin .gtr .none (.t 24) (.const (.int .u8 126))),
    .o 26 (.pick (.t 23) (.b true) (.t 25)),
    .m 27 26,
    .gm 28 27 false 8,
    .g 29 27 false (.fieldAddr 4 (.t 5)),
    .g 30 27 false (.load false 1 (.t 29)),
    .g 31 27 false (.bin .eql .none (.t 28) (.t 30)),
    .o 32 (.pick (.t 27) (.b true) (.t 31)),
    .m 33 32,
    .gm 34 33 false 8,
    .g 35 33 false (.fieldAddr 5 (.t 5)),
    .g 36 33 false (.load false 1 (.t 35)),
    .g 37 33 false (.bin .eql .none (.t 34) (.t 36)),
    .o 38 (.pick (.t 33) (.b true) (.t 37))])
  (.cond (.t 38)
  (.seq (.region false [
    .o 4 (.mov (.b false))])
  (.ret q67))
  .skip))))
  (.region false [
    .o 39 (.bin .add .none (.t 17) (.i 1)),
    .m 17 39]))))
def s67_0 (t5 t15 t16 t17 : AV) : Fr := ⟨[J,J,J,J,J,t5,J,J,J,J,J,J,J,J,J,t15,t16,t17,J,J,J,J,J,J,J,J,J,J,J,J,J,J,J,J,J,J,J,J,J,J,J,J,J], [], .call⟩
def x67_0 (t5 : AV) : Fr := ⟨[J,J,J,J,J,t5,J,J,J,J,J,J,J,J,J,J,J,J,J,J,J,J,J,J,J,J,J,J,J,J,J,J,J,J,J,J,J,J,J,J,J,J,J], [], .call⟩
/-- drachm/style.Plain -/
def f67 : SFunc := ⟨.closed, 43, [(.tmp 4)],
  (.seq (.region false [
    .o 4 (.mov (.b false))])
  (.seq (.region false [
    .m 10 0,
    .o 11 (.call (.f 44) [(.t 10)]),
    .m 9 11,
    .o 12 (.extract 0 (.t 9)),
    .o 13 (.extract 1 (.t 9)),
    .o 5 (.alloc [(.bool false), (.int .u8 0), (.int .u8 0), (.int .u8 0), (.int .u8 0), (.int .u8 0)]),
    .n (.store 6 (.t 5) (.t 12)),
    .m 6 13])
  (.seq (.seq (.region false [
    .m 14 1,
    .o 15 (.conv .toBytes (.t 14)),
    .o 16 (.len .slc (.t 15)),
    .o 17 (.mov (.i 0))])
  (.block 0 q67_0
  (.loop k67_0 l67_0)))
  (.seq (.region false [
    .o 40 (.fieldAddr 4 (.t 5)),
    .o 41 (.load false 1 (.t 40)),
    .o 42 (.bin .neq .none (.t 41) (.const (.int .u8 0))),
    .m 4 42])
  (.ret q67)))))⟩
abbrev q68 : List Bool := [Z,Z,Z,Z,X,Z,Z,Z,Z,Z,Z]
def r68 (t4 : AV) : Fr := ⟨[J,J,J,J,t4,J,J,J,J,J,J], [], .call⟩
/-- (*drachm/parse.parser).may -/
def f68 : SFunc := ⟨.open_, 11, [(.tmp 4)],
  (.seq (.region false [
    .o 4 (.mov (.b false))])
  (.seq (.seq (.region false [
    .m 5 0,
    .m 6 1,
    .o 7 (.call (.f 82) [(.t 5), (.t 6)]),
    .o 8 (.un .not (.t 7))])
  (.cond (.t 8)
  (.seq (.region false [
    .o 4 (.mov (.b false))])
  (.ret q68))
  .skip))
  (.seq (.region false [
    .m 9 0,
    .o 10 (.call (.f 83) [(.t 9)])])
  (.seq (.region false [
    .o 4 (.mov (.b true))])
  (.ret q68)))))⟩
abbrev q69 : List Bool := [Z,Z,X,Z,Z,Z,Z,Z,Z,Z,Z,Z,Z,Z,Z,Z,Z,Z,Z,Z,Z,Z,Z]
def r69 (t2 : AV) : Fr := ⟨[J,J,t2,J,J,J,J,J,J,J,J,J,J,J,J,J,J,J,J,J,J,J,J], [], .call⟩
/-- (*drachm/parse.parser).item -/
def f69 : SFunc := ⟨.open_, 23, [(.tmp 2)],
  (.seq (.region false [
    .o 2 (.mov (.const .nils))])
  (.seq (.seq (.region false [
    .m 4 0,
    .o 5 (.call (.f 82) [(.t 4), (.i 9)])])
  (.cond (.t 5)
  (.seq (.region false [
    .m 6 0,
    .o 7 (.call (.f 83) [(.t 6)]),
    .o 8 (.field false 2 1 (.t 7)),
    .o 9 (.build [(.int .i64 0), (.int .i64 0), (.int .i64 0), (.int .i64 0), (.int .i64 0), (.str [])] [(0, 1, (.i 7)), (1, 1, (.i (-1))), (5, 1, (.t 8))]),
    .o 10 (.buildSlice 1 [(.int .i64 0), (.int .i64 0), (.int .i64 0), (.int .i64 0), (.int .i64 0), (.str [])] [(0, 6, (.t 9))]),
    .m 2 10])
  (.ret q69))
  .skip))
  (.seq (.region false [
    .m 11 0,
    .o 12 (.call (.f 84) [(.t 11)]),
    .m 3 12])
  (.seq (.seq (.region false [
    .m 13 0,
    .o 14 (.call (.f 82) [(.t 13), (.i 9)])])
  (.cond (.t 14)
  (.region false [
    .m 15 3,
    .m 16 0,
    .o 17 (.call (.f 83) [(.t 16)]),
    .o 18 (.field false 2 1 (.t 17)),
    .o 19 (.build [(.int .i64 0), (.int .i64 0), (.int .i64 0), (.int .i64 0), (.int .i64 0), (.str [])] [(0, 1, (.i 6)), (1, 1, (.i (-1))), (5, 1, (.t 18))]),
    .o 20 (.buildSlice 1 [(.int .i64 0), (.int .i64 0), (.int .i64 0), (.int .i64 0), (.int .i64 0), (.str [])] [(0, 6, (.t 19))]),
    .o 21 (.append 6 56 (.t 15) (.t 20)),
    .m 3 21])
  .skip))
  (.seq (.region false [
    .m 22 3,
    .m 2 22])
  (.ret q69))))))⟩
abbrev q70 : List Bool := [Z,Z,X,Z,Z,Z,Z,Z,Z,Z,Z,Z,Z,Z,Z,Z,Z,Z,Z,Z]
def r70 (t2 : AV) : Fr := ⟨[J,J,t2,J,J,J,J,J,J,J,J,J,J,J,J,J,J,J,J,J], [], .call⟩
/-- (*drachm/parse.parser).at -/
def f70 : SFunc := ⟨.open_, 20, [(.tmp 2)],
  (.seq (.region false [
    .o 2 (.mov (.i 0))])
  (.seq (.seq (.region false [
    .m 3 0,
    .o 4 (.nilCheck (.t 3)),
    .o 5 (.fieldAddr 9 (.t 4)),
    .o 6 (.load false 1 (.t 5)),
    .o 7 (.len .slc (.t 6)),
    .o 8 (.bin .eql .none (.t 7) (.i 0))])
  (.cond (.t 8)
  (.seq (.region false [
    .m 9 0,
    .o 10 (.nilCheck (.t 9)),
    .o 11 (.fieldAddr 1 (.t 10)),
    .o 12 (.load false 1 (.t 11)),
    .m 2 12])
  (.ret q70))
  .skip))
  (.seq (.region false [
    .m 13 0,
    .o 14 (.nilCheck (.t 13)),
    .o 15 (.fieldAddr 9 (.t 14)),
    .o 16 (.load false 1 (.t 15)),
    .o 17 (.indexAddrVs 4 (.t 16) (.i 0)),
    .o 18 (.fieldAddr 1 (.t 17)),
    .o 19 (.load false 1 (.t 18)),
    .m 2 19])
  (.ret q70))))⟩
abbrev q71 : List Bool := [X,Z,Z,Z,Z,Z,Z,Z,Z,Z,Z,Z,Z,Z,Z,Z,Z,Z,Z,Z,Z,Z,Z,Z,Z,Z,Z,Z,Z,Z,Z,Z,Z,Z,Z,Z,Z,Z,Z,Z,Z,Z,Z,Z,Z,Z,Z,Z,Z,Z,Z,Z,Z,Z,Z,Z,Z,Z,Z,Z,Z,Z,Z,Z,Z,Z,Z,Z,Z,Z,Z,Z,Z,Z,Z,Z,Z,Z,Z,Z,Z,Z,Z,Z,Z,Z,Z,Z,Z,Z,Z,Z]
def r71 (t0 : AV) : Fr := ⟨[t0,J,J,J,J,J,J,J,J,J,J,J,J,J,J,J,J,J,J,J,J,J,J,J,J,J,J,J,J,J,J,J,J,J,J,J,J,J,J,J,J,J,J,J,J,J,J,J,J,J,J,J,J,J,J,J,J,J,J,J,J,J,J,J,J,J,J,J,J,J,J,J,J,J,J,J,J,J,J,J,J,J,J,J,J,J,J,J,J,J,J,J], [], .call⟩
/-- drachm/drachmref05.first -/
def f71 : SFunc := ⟨.closed, 92, [(.tmp 0)],
  (.seq (.region false [
    .o 0 (.mov (.const .nils))])
  (.seq (.region false [
    .o 1 (.build [(.str []), (.str []), (.str []), (.str []), (.str [])] [(0, 1, (.s [109])), (1, 1, (.s [77])), (2, 1, (.s [109])), (3, 1, (.s [77])), (4, 1, (.s [109]))]),
    .o 2 (.call (.f 85) [(.t 1), (.b true), (.i 0), (.i 0), (.i 1), (.i 1), (.i 0), (.const .nils)]),
    .o 3 (.build [(.str []), (.str []), (.str []), (.str []), (.str [])] [(0, 1, (.s [115])), (1, 1, (.s [83])), (2, 1, (.s [115])), (3, 1, (.s [83])), (4, 1, (.s [115]))]),
    .o 4 (.call (.f 85) [(.t 3), (.b true), (.i 0), (.i 1), (.i 1), (.i 1), (.i 0), (.const .nils)]),
    .o 5 (.build [(.str []), (.str []), (.str []), (.str []), (.str [])] [(0, 1, (.s [103])), (1, 1, (.s [71])), (2, 1, (.s [103])), (3, 1, (.s [71])), (4, 1, (.s [103]))]),
    .o 6 (.call (.f 85) [(.t 5), (.b true), (.i 0), (.i 2), (.i 1), (.i 1), (.i 0), (.const .nils)]),
    .o 7 (.build [(.str []), (.str []), (.str []), (.str []), (.str [])] [(0, 1, (.s [114, 97, 100])), (1, 1, (.s [82, 65, 68])), (2, 1, (.s [114, 97, 100])), (3, 1, (.s [82, 65, 68])), (4, 1, (.s [114, 97, 100]))]),
    .o 8 (.call (.f 85) [(.t 7), (.b true), (.i 0), (.i 3), (.i 1), (.i 1), (.i 0), (.const .nils)]),
    .o 9 (.build [(.str []), (.str []), (.str []), (.str []), (.str [])] [(0, 1, (.s [75])), (1, 1, (.s [75])), (2, 1, (.s [75])), (3, 1, (.s [75])), (4, 1, (.s [75]))]),
    .o 10 (.call (.f 85) [(.t 9), (.b true), (.i 0), (.i 4), (.i 1), (.i 1), (.i 0), (.const .nils)]),
    .o 11 (.build [(.str []), (.str []), (.str []), (.str []), (.str [])] [(0, 1, (.s [67])), (1, 1, (.s [67])), (2, 1, (.s [67])), (3, 1, (.s [67])), (4, 1, (.s [67]))]),
    .o 12 (.call (.f 85) [(.t 11), (.b true), (.i 0), (.i 5), (.i 1), (.i 1), (.i 0), (.const .nils)]),
    .o 13 (.build [(.str []), (.str []), (.str []), (.str []), (.str [])] [(0, 1, (.s [99, 100])), (1, 1, (.s [67, 68])), (2, 1, (.s [99, 100])), (3, 1, (.s [67, 68])), (4, 1, (.s [99, 100]))]),
    .o 14 (.call (.f 85) [(.t 13), (.b true), (.i 0), (.i 6), (.i 1), (.i 1), (.i 0), (.const .nils)]),
    .o 15 (.build [(.str []), (.str []), (.str []), (.str []), (.str [])] [(0, 1, (.s [37])), (1, 1, (.s [37])), (2, 1, (.s [37])), (3, 1, (.s [])), (4, 1, (.s [37]))]),
    .o 16 (.call (.f 85) [(.t 15), (.b false), (.i 0), (.i (-1)), (.i 1), (.i 1), (.i (-2)), (.const .nils)]),
    .o 17 (.build [(.str []), (.str []), (.str []), (.str []), (.str [])] [(0, 1, (.s [109, 111, 108])), (1, 1, (.s [77, 79, 76])), (2, 1, (.s [109, 111, 108])), (3, 1, (.s [77, 79, 76])), (4, 1, (.s [109, 111, 108]))]),
    .o 18 (.call (.f 85) [(.t 17), (.b true), (.i 0), (.i (-1)), (.i 602214076), (.i 1), (.i 15), (.const .nils)]),
    .o 19 (.build [(.str []), (.str []), (.str []), (.str []), (.str [])] [(0, 1, (.s [115, 114])), (1, 1, (.s [83, 82])), (2, 1, (.s [115, 114])), (3, 1, (.s [83, 82])), (4, 1, (.s [115, 114]))]),
    .o 20 (.build [(.int .i64 0), (.int .i64 0)] [(0, 1, (.i 3)), (1, 1, (.i 2))]),
    .o 21 (.buildSlice 1 [(.int .i64 0), (.int .i64 0)] [(0, 2, (.t 20))]),
    .o 22 (.call (.f 85) [(.t 19), (.b true), (.i 0), (.i (-1)), (.i 1), (.i 1), (.i 0), (.t 21)]),
    .o 23 (.build [(.str []), (.str []), (.str []), (.str []), (.str [])] [(0, 1, (.s [72, 122])), (1, 1, (.s [72, 90])), (2, 1, (.s [72, 122])), (3, 1, (.s [72, 90])), (4, 1, (.s [72, 122]))]),
    .o 24 (.build [(.int .i64 0), (.int .i64 0)] [(0, 1, (.i 1)), (1, 1, (.i (-1)))]),
    .o 25 (.buildSlice 1 [(.int .i64 0), (.int .i64 0)] [(0, 2, (.t 24))]),
    .o 26 (.call (.f 85) [(.t 23), (.b true), (.i 0), (.i (-1)), (.i 1), (.i 1), (.i 0), (.t 25)]),
    .o 27 (.build [(.str []), (.str []), (.str []), (.str []), (.str [])] [(0, 1, (.s [78])), (1, 1, (.s [78])), (2, 1, (.s [78])), (3, 1, (.s [78])), (4, 1, (.s [78]))]),
    .o 28 (.build [(.int .i64 0), (.int .i64 0)] [(0, 1, (.i 2)), (1, 1, (.i 1))]),
    .o 29 (.build [(.int .i64 0), (.int .i64 0)] [(0, 1, (.i 0)), (1, 1, (.i 1))]),
    .o 30 (.build [(.int .i64 0), (.int .i64 0)] [(0, 1, (.i 1)), (1, 1, (.i (-2)))]),
    .o 31 (.buildSlice 3 [(.int .i64 0), (.int .i64 0), (.int .i64 0), (.int .i64 0), (.int .i64 0), (.int .i64 0)] [(0, 2, (.t 28)), (2, 2, (.t 29)), (4, 2, (.t 30))]),
    .o 32 (.call (.f 85) [(.t 27), (.b true), (.i 0), (.i (-1)), (.i 1), (.i 1), (.i 3), (.t 31)]),
    .o 33 (.build [(.str []), (.str []), (.str []), (.str []), (.str [])] [(0, 1, (.s [80, 97])), (1, 1, (.s [80, 65, 76])), (2, 1, (.s [80, 97])), (3, 1, (.s [80, 65])), (4, 1, (.s [80, 97]))]),
    .o 34 (.build [(.int .i64 0), (.int .i64 0)] [(0, 1, (.i 11)), (1, 1, (.i 1))]),
    .o 35 (.build [(.int .i64 0), (.int .i64 0)] [(0, 1, (.i 0)), (1, 1, (.i (-2)))]),
    .o 36 (.buildSlice 2 [(.int .i64 0), (.int .i64 0), (.int .i64 0), (.int .i64 0)] [(0, 2, (.t 34)), (2, 2, (.t 35))]),
    .o 37 (.call (.f 85) [(.t 33), (.b true), (.i 0), (.i (-1)), (.i 1), (.i 1), (.i 0), (.t 36)]),
    .o 38 (.build [(.str []), (.str []), (.str []), (.str []), (.str [])] [(0, 1, (.s [74])), (1, 1, (.s [74])), (2, 1, (.s [74])), (3, 1, (.s [74])), (4, 1, (.s [74]))]),
    .o 39 (.build [(.int .i64 0), (.int .i64 0)] [(0, 1, (.i 11)), (1, 1, (.i 1))]),
    .o 40 (.build [(.int .i64 0), (.int .i64 0)] [(0, 1, (.i 0)), (1, 1, (.i 1))]),
    .o 41 (.buildSlice 2 [(.int .i64 0), (.int .i64 0), (.int .i64 0), (.int .i64 0)] [(0, 2, (.t 39)), (2, 2, (.t 40))]),
    .o 42 (.call (.f 85) [(.t 38), (.b true), (.i 0), (.i (-1)), (.i 1), (.i 1), (.i 0), (.t 41)]),
    .o 43 (.build [(.str []), (.str []), (.str []), (.str []), (.str [])] [(0, 1, (.s [87])), (1, 1, (.s [87])), (2, 1, (.s [87])), (3, 1, (.s [87])), (4, 1, (.s [87]))]),
    .o 44 (.build [(.int .i64 0), (.int .i64 0)] [(0, 1, (.i 13)), (1, 1, (.i 1))]),
    .o 45 (.build [(.int .i64 0), (.int .i64 0)] [(0, 1, (.i 1)), (1, 1, (.i (-1)))]),
    .o 46 (.buildSlice 2 [(.int .i64 0), (.int .i64 0), (.int .i64 0), (.int .i64 0)] [(0, 2, (.t 44)), (2, 2, (.t 45))]),
    .o 47 (.call (.f 85) [(.t 43), (.b true), (.i 0), (.i (-1)), (.i 1), (.i 1), (.i 0), (.t 46)]),
    .o 48 (.build [(.str []), (.str []), (.str []), (.str []), (.str [])] [(0, 1, (.s [65])), (1, 1, (.s [65])), (2, 1, (.s [65])), (3, 1, (.s [65])), (4, 1, (.s [65]))]),
    .o 49 (.build [(.int .i64 0), (.int .i64 0)] [(0, 1, (.i 5)), (1, 1, (.i 1))]),
    .o 50 (.build [(.int .i64 0), (.int .i64 0)] [(0, 1, (.i 1)), (1, 1, (.i (-1)))]),
    .o 51 (.buildSlice 2 [(.int .i64 0), (.int .i64 0), (.int .i64 0), (.int .i64 0)] [(0, 2, (.t 49)), (2, 2, (.t 50))]),
    .o 52 (.call (.f 85) [(.t 48), (.b true), (.i 0), (.i (-1)), (.i 1), (.i 1), (.i 0), (.t 51)]),
    .o 53 (.build [(.str []), (.str []), (.str []), (.str []), (.str [])] [(0, 1, (.s [86])), (1, 1, (.s [86])), (2, 1, (.s [86])), (3, 1, (.s [86])), (4, 1, (.s [86]))]),
    .o 54 (.build [(.int .i64 0), (.int .i64 0)] [(0, 1, (.i 13)), (1, 1, (.i 1))]),
    .o 55 (.build [(.int .i64 0), (.int .i64 0)] [(0, 1, (.i 5)), (1, 1, (.i (-1)))]),
    .o 56 (.buildSlice 2 [(.int .i64 0), (.int .i64 0), (.int .i64 0), (.int .i64 0)] [(0, 2, (.t 54)), (2, 2, (.t 55))]),
    .o 57 (.call (.f 85) [(.t 53), (.b true), (.i 0), (.i (-1)), (.i 1), (.i 1), (.i 0), (.t 56)]),
    .o 58 (.build [(.str []), (.str []), (.str []), (.str []), (.str [])] [(0, 1, (.s [70])), (1, 1, (.s [70])), (2, 1, (.s [70])), (3, 1, (.s [70])), (4, 1, (.s [70]))]),
    .o 59 (.build [(.int .i64 0), (.int .i64 0)] [(0, 1, (.i 5)), (1, 1, (.i 1))]),
    .o 60 (.build [(.int .i64 0), (.int .i64 0)] [(0, 1, (.i 16)), (1, 1, (.i (-1)))]),
    .o 61 (.buildSlice 2 [(.int .i64 0), (.int .i64 0), (.int .i64 0), (.int .i64 0)] [(0, 2, (.t 59)), (2, 2, (.t 60))]),
    .o 62 (.call (.f 85) [(.t 58), (.b true), (.i 0), (.i (-1)), (.i 1), (.i 1), (.i 0), (.t 61)]),
    .o 63 (.build [(.str []), (.str []), (.str []), (.str []), (.str [])] [(0, 1, (.s [79, 104, 109])), (1, 1, (.s [79, 72, 77])), (2, 1, (.s [79, 104, 109])), (3, 1, (.s [79, 72, 77])), (4, 1, (.s [111, 104, 109]))]),
    .o 64 (.build [(.int .i64 0), (.int .i64 0)] [(0, 1, (.i 16)), (1, 1, (.i 1))]),
    .o 65 (.build [(.int .i64 0), (.int .i64 0)] [(0, 1, (.i 15)), (1, 1, (.i (-1)))]),
    .o 66 (.buildSlice 2 [(.int .i64 0), (.int .i64 0), (.int .i64 0), (.int .i64 0)] [(0, 2, (.t 64)), (2, 2, (.t 65))]),
    .o 67 (.call (.f 85) [(.t 63), (.b true), (.i 0), (.i (-1)), (.i 1), (.i 1), (.i 0), (.t 66)]),
    .o 68 (.build [(.str []), (.str []), (.str []), (.str []), (.str [])] [(0, 1, (.s [83])), (1, 1, (.s [83, 73, 69])), (2, 1, (.s [83])), (3, 1, (.s [83, 73, 69])), (4, 1, (.s [83]))]),
    .o 69 (.build [(.int .i64 0), (.int .i64 0)] [(0, 1, (.i 18)), (1, 1, (.i (-1)))]),
    .o 70 (.buildSlice 1 [(.int .i64 0), (.int .i64 0)] [(0, 2, (.t 69))]),
    .o 71 (.call (.f 85) [(.t 68), (.b true), (.i 0), (.i (-1)), (.i 1), (.i 1), (.i 0), (.t 70)]),
    .o 72 (.build [(.str []), (.str []), (.str []), (.str []), (.str [])] [(0, 1, (.s [87, 98])), (1, 1, (.s [87, 66])), (2, 1, (.s [87, 98])), (3, 1, (.s [87, 66])), (4, 1, (.s [87, 98]))]),
    .o 73 (.build [(.int .i64 0), (.int .i64 0)] [(0, 1, (.i 16)), (1, 1, (.i 1))]),
    .o 74 (.build [(.int .i64 0), (.int .i64 0)] [(0, 1, (.i 1)), (1, 1, (.i 1))]),
    .o 75 (.buildSlice 2 [(.int .i64 0), (.int .i64 0), (.int .i64 0), (.int .i64 0)] [(0, 2, (.t 73)), (2, 2, (.t 74))]),
    .o 76 (.call (.f 85) [(.t 72), (.b true), (.i 0), (.i (-1)), (.i 1), (.i 1), (.i 0), (.t 75)]),
    .o 77 (.build [(.str []), (.str []), (.str []), (.str []), (.str [])] [(0, 1, (.s [67, 101, 108])), (1, 1, (.s [67, 69, 76])), (2, 1, (.s [91, 111, 67, 93])), (3, 1, (.s [67, 69, 76])), (4, 1, (.s []))]),
    .o 78 (.build [(.int .i64 0), (.int .i64 0)] [(0, 1, (.i 4)), (1, 1, (.i 1))]),
    .o 79 (.buildSlice 1 [(.int .i64 0), (.int .i64 0)] [(0, 2, (.t 78))]),
    .o 80 (.call (.f 85) [(.t 77), (.b true), (.i 1), (.i (-1)), (.i 1), (.i 1), (.i 0), (.t 79)]),
    .o 81 (.build [(.str []), (.str []), (.str []), (.str []), (.str [])] [(0, 1, (.s [84])), (1, 1, (.s [84])), (2, 1, (.s [84])), (3, 1, (.s [84])), (4, 1, (.s [84]))]),
    .o 82 (.build [(.int .i64 0), (.int .i64 0)] [(0, 1, (.i 20)), (1, 1, (.i 1))]),
    .o 83 (.build [(.int .i64 0), (.int .i64 0)] [(0, 1, (.i 0)), (1, 1, (.i (-2)))]),
    .o 84 (.buildSlice 2 [(.int .i64 0), (.int .i64 0), (.int .i64 0), (.int .i64 0)] [(0, 2, (.t 82)), (2, 2, (.t 83))]),
    .o 85 (.call (.f 85) [(.t 81), (.b true), (.i 0), (.i (-1)), (.i 1), (.i 1), (.i 0), (.t 84)]),
    .o 86 (.build [(.str []), (.str []), (.str []), (.str []), (.str [])] [(0, 1, (.s [72])), (1, 1, (.s [72])), (2, 1, (.s [72])), (3, 1, (.s [72])), (4, 1, (.s [72]))]),
    .o 87 (.build [(.int .i64 0), (.int .i64 0)] [(0, 1, (.i 20)), (1, 1, (.i 1))]),
    .o 88 (.build [(.int .i64 0), (.int .i64 0)] [(0, 1, (.i 15)), (1, 1, (.i (-1)))]),
    .o 89 (.buildSlice 2 [(.int .i64 0), (.int .i64 0), (.int .i64 0), (.int .i64 0)] [(0, 2, (.t 87)), (2, 2, (.t 88))]),
    .o 90 (.call (.f 85) [(.t 86), (.b true), (.i 0), (.i (-1)), (.i 1), (.i 1), (.i 0), (.t 89)]),
    .o 91 (.buildSlice 24 [(.str []), (.str []), (.str []), (.str []), (.str []), (.bool false), (.int .i64 0), (.int .i64 0), (.int .i64 0), (.int .i64 0), (.int .i64 0), .nils, (.str []), (.str []), (.str []), (.str []), (.str []), (.bool false), (.int .i64 0), (.int .i64 0), (.int .i64 0), (.int .i64 0), (.int .i64 0), .nils, (.str []), (.str []), (.str []), (.str []), (.str []), (.bool false), (.int .i64 0), (.int .i64 0), (.int .i64 0), (.int .i64 0), (.int .i64 0), .nils, (.str []), (.str []), (.str []), (.str []), (.str []), (.bool false), (.int .i64 0), (.int .i64 0), (.int .i64 0), (.int .i64 0), (.int .i64 0), .nils, (.str []), (.str []), (.str []), (.str []), (.str []), (.bool false), (.int .i64 0), (.int .i64 0), (.int .i64 0), (.int .i64 0), (.int .i64 0), .nils, (.str []), (.str []), (.str []), (.str []), (.str []), (.bool false), (.int .i64 0), (.int .i64 0), (.int .i64 0), (.int .i64 0), (.int .i64 0), .nils, (.str []), (.str []), (.str []), (.str []), (.str []), (.bool false), (.int .i64 0), (.int .i64 0), (.int .i64 0), (.int .i64 0), (.int .i64 0), .nils, (.str []), (.str []), (.str []), (.str []), (.str []), (.bool false), (.int .i64 0), (.int .i64 0), (.int .i64 0), (.int .i64 0), (.int .i64 0), .nils, (.str []), (.str []), (.str []), (.str []), (.str []), (.bool false), (.int .i64 0), (.int .i64 0), (.int .i64 0), (.int .i64 0), (.int .i64 0), .nils, (.str []), (.str []), (.str []), (.str []), (.str []), (.bool false), (.int .i64 0), (.int .i64 0), (.int .i64 0), (.int .i64 0), (.int .i64 0), .nils, (.str []), (.str []), (.str []), (.str []), (.str []), (.bool false), (.int .i64 0), (.int .i64 0), (.int .i64 0), (.int .i64 0), (.int .i64 0), .nils, (.str []), (.str []), (.str []), (.str []), (.str []), (.bool false), (.int .i64 0), (.int .i64 0), (.int .i64 0), (.int .i64 0), (.int .i64 0), .nils, (.str []), (.str []), (.str []), (.str []), (.str []), (.bool false), (.int .i64 0), (.int .i64 0), (.int .i64 0), (.int .i64 0), (.int .i64 0), .nils, (.str []), (.str []), (.str []), (.str []), (.str []), (.bool false), (.int .i64 0), (.int .i64 0), (.int .i64 0), (.int .i64 0), (.int .i64 0), .nils, (.str []), (.str []), (.str []), (.str []), (.str []), (.bool false), (.int .i64 0), (.int .i64 0), (.int .i64 0), (.int .i64 0), (.int .i64 0), .nils, (.str []), (.str []), (.str []), (.str []), (.str []), (.bool false), (.int .i64 0), (.int .i64 0), (.int .i64 0), (.int .i64 0), (.int .i64 0), .nils, (.str []), (.str []), (.str []), (.str []), (.str []), (.bool false), (.int .i64 0), (.int .i64 0), (.int .i64 0), (.int .i64 0), (.int .i64 0), .nils, (.str []), (.str []), (.str []), (.str []), (.str []), (.bool false), (.int .i64 0), (.int .i64 0), (.int .i64 0), (.int .i64 0), (.int .i64 0), .nils, (.str []), (.str []), (.str []), (.str []), (.str []), (.bool false), (.int .i64 0), (.int .i64 0), (.int .i64 0), (.int .i64 0), (.int .i64 0), .nils, (.str []), (.str []), (.str []), (.str []), (.str []), (.bool false), (.int .i64 0), (.int .i64 0), (.int .i64 0), (.int .i64 0), (.int .i64 0), .nils, (.str []), (.str []), (.str []), (.str []), (.str []), (.bool false), (.int .i64 0), (.int .i64 0), (.int .i64 0), (.int .i64 0), (.int .i64 0), .nils, (.str []), (.str []), (.str []), (.str []), (.str []), (.bool false), (.int .i64 0), (.int .i64 0), (.int .i64 0), (.int .i64 0), (.int .i64 0), .nils, (.str []), (.str []), (.str []), (.str []), (.str []), (.bool false), (.int .i64 0), (.int .i64 0), (.int .i64 0), (.int .i64 0), (.int .i64 0), .nils, (.str []), (.str []), (.str []), (.str []), (.str []), (.bool false), (.int .i64 0), (.int .i64 0), (.int .i64 0), (.int .i64 0), (.int .i64 0), .nils] [(0, 12, (.t 2)), (12, 12, (.t 4)), (24, 12, (.t 6)), (36, 12, (.t 8)), (48, 12, (.t 10)), (60, 12, (.t 12)), (72, 12, (.t 14)), (84, 12, (.t 16)), (96, 12, (.t 18)), (108, 12, (.t 22)), (120, 12, (.t 26)), (132, 12, (.t 32)), (144, 12, (.t 37)), (156, 12, (.t 42)), (168, 12, (.t 47)), (180, 12, (.t 52)), (192, 12, (.t 57)), (204, 12, (.t 62)), (216, 12, (.t 67)), (228, 12, (.t 71)), (240, 12, (.t 76)), (252, 12, (.t 80)), (264, 12, (.t 85)), (276, 12, (.t 90))]),
    .m 0 91])
  (.ret q71)))⟩
abbrev q72 : List Bool := [X,Z,Z,Z,Z,Z,Z,Z,Z,Z,Z,Z,Z,Z,Z,Z,Z,Z,Z,Z,Z,Z,Z,Z,Z,Z,Z,Z,Z,Z,Z,Z,Z,Z,Z,Z,Z,Z,Z,Z,Z,Z,Z,Z,Z,Z,Z,Z,Z,Z,Z,Z,Z,Z,Z,Z,Z,Z,Z,Z,Z,Z,Z,Z,Z,Z,Z,Z,Z,Z,Z,Z,Z,Z,Z,Z,Z,Z,Z,Z,Z,Z,Z,Z,Z,Z,Z,Z,Z,Z,Z,Z,Z,Z,Z,Z,Z,Z,Z,Z]
def r72 (t0 : AV) : Fr := ⟨[t0,J,J,J,J,J,J,J,J,J,J,J,J,J,J,J,J,J,J,J,J,J,J,J,J,J,J,J,J,J,J,J,J,J,J,J,J,J,J,J,J,J,J,J,J,J,J,J,J,J,J,J,J,J,J,J,J,J,J,J,J,J,J,J,J,J,J,J,J,J,J,J,J,J,J,J,J,J,J,J,J,J,J,J,J,J,J,J,J,J,J,J,J,J,J,J,J,J,J,J], [], .call⟩
/-- drachm/drachmref05.rest -/
def f72 : SFunc := ⟨.closed, 100, [(.tmp 0)],
  (.seq (.region false [
    .o 0 (.mov (.const .nils))])
  (.seq (.region false [
    .o 1 (.build [(.str []), (.str []), (.str []), (.str []), (.str [])] [(0, 1, (.s [108, 109])), (1, 1, (.s [76, 77])), (2, 1, (.s [108, 109])), (3, 1, (.s [76, 77])), (4, 1, (.s [108, 109]))]),
    .o 2 (.build [(.int .i64 0), (.int .i64 0)] [(0, 1, (.i 6)), (1, 1, (.i 1))]),
    .o 3 (.build [(.int .i64 0), (.int .i64 0)] [(0, 1, (.i 9)), (1, 1, (.i 1))]),
    .o 4 (.buildSlice 2 [(.int .i64 0), (.int .i64 0), (.int .i64 0), (.int .i64 0)] [(0, 2, (.t 2)), (2, 2, (.t 3))]),
    .o 5 (.call (.f 85) [(.t 1), (.b true), (.i 0), (.i (-1)), (.i 1), (.i 1), (.i 0), (.t 4)]),
    .o 6 (.build [(.str []), (.str []), (.str []), (.str []), (.str [])] [(0, 1, (.s [108, 120])), (1, 1, (.s [76, 88])), (2, 1, (.s [108, 120])), (3, 1, (.s [76, 88])), (4, 1, (.s [108, 120]))]),
    .o 7 (.build [(.int .i64 0), (.int .i64 0)] [(0, 1, (.i 24)), (1, 1, (.i 1))]),
    .o 8 (.build [(.int .i64 0), (.int .i64 0)] [(0, 1, (.i 0)), (1, 1, (.i (-2)))]),
    .o 9 (.buildSlice 2 [(.int .i64 0), (.int .i64 0), (.int .i64 0), (.int .i64 0)] [(0, 2, (.t 7)), (2, 2, (.t 8))]),
    .o 10 (.call (.f 85) [(.t 6), (.b true), (.i 0), (.i (-1)), (.i 1), (.i 1), (.i 0), (.t 9)]),
    .o 11 (.build [(.str []), (.str []), (.str []), (.str []), (.str [])] [(0, 1, (.s [66, 113])), (1, 1, (.s [66, 81])), (2, 1, (.s [66, 113])), (3, 1, (.s [66, 81])), (4, 1, (.s [66, 113]))]),
    .o 12 (.build [(.int .i64 0), (.int .i64 0)] [(0, 1, (.i 1)), (1, 1, (.i (-1)))]),
    .o 13 (.buildSlice 1 [(.int .i64 0), (.int .i64 0)] [(0, 2, (.t 12))]),
    .o 14 (.call (.f 85) [(.t 11), (.b true), (.i 0), (.i (-1)), (.i 1), (.i 1), (.i 0), (.t 13)]),
    .o 15 (.build [(.str []), (.str []), (.str []), (.str []), (.str [])] [(0, 1, (.s [71, 121])), (1, 1, (.s [71, 89])), (2, 1, (.s [71, 121])), (3, 1, (.s [71, 89])), (4, 1, (.s [71, 121]))]),
    .o 16 (.build [(.int .i64 0), (.int .i64 0)] [(0, 1, (.i 13)), (1, 1, (.i 1))]),
    .o 17 (.build [(.int .i64 0), (.int .i64 0)] [(0, 1, (.i 2)), (1, 1, (.i (-1)))]),
    .o 18 (.buildSlice 2 [(.int .i64 0), (.int .i64 0), (.int .i64 0), (.int .i64 0)] [(0, 2, (.t 16)), (2, 2, (.t 17))]),
    .o 19 (.call (.f 85) [(.t 15), (.b true), (.i 0), (.i (-1)), (.i 1), (.i 1), (.i (-3)), (.t 18)]),
    .o 20 (.build [(.str []), (.str []), (.str []), (.str []), (.str [])] [(0, 1, (.s [83, 118])), (1, 1, (.s [83, 86])), (2, 1, (.s [83, 118])), (3, 1, (.s [83, 86])), (4, 1, (.s [83, 118]))]),
    .o 21 (.build [(.int .i64 0), (.int .i64 0)] [(0, 1, (.i 13)), (1, 1, (.i 1))]),
    .o 22 (.build [(.int .i64 0), (.int .i64 0)] [(0, 1, (.i 2)), (1, 1, (.i (-1)))]),
    .o 23 (.buildSlice 2 [(.int .i64 0), (.int .i64 0), (.int .i64 0), (.int .i64 0)] [(0, 2, (.t 21)), (2, 2, (.t 22))]),
    .o 24 (.call (.f 85) [(.t 20), (.b true), (.i 0), (.i (-1)), (.i 1), (.i 1), (.i (-3)), (.t 23)]),
    .o 25 (.build [(.str []), (.str []), (.str []), (.str []), (.str [])] [(0, 1, (.s [108])), (1, 1, (.s [76])), (2, 1, (.s [76])), (3, 1, (.s [76])), (4, 1, (.s [108]))]),
    .o 26 (.build [(.int .i64 0), (.int .i64 0)] [(0, 1, (.i 0)), (1, 1, (.i 3))]),
    .o 27 (.buildSlice 1 [(.int .i64 0), (.int .i64 0)] [(0, 2, (.t 26))]),
    .o 28 (.call (.f 85) [(.t 25), (.b true), (.i 0), (.i (-1)), (.i 1), (.i 1), (.i (-3)), (.t 27)]),
    .o 29 (.build [(.str []), (.str []), (.str []), (.str []), (.str [])] [(0, 1, (.s [97, 114])), (1, 1, (.s [65, 82])), (2, 1, (.s [97])), (3, 1, (.s [65, 82, 69])), (4, 1, (.s [97]))]),
    .o 30 (.build [(.int .i64 0), (.int .i64 0)] [(0, 1, (.i 0)), (1, 1, (.i 2))]),
    .o 31 (.buildSlice 1 [(.int .i64 0), (.int .i64 0)] [(0, 2, (.t 30))]),
    .o 32 (.call (.f 85) [(.t 29), (.b true), (.i 0), (.i (-1)), (.i 1), (.i 1), (.i 2), (.t 31)]),
    .o 33 (.build [(.str []), (.str []), (.str []), (.str []), (.str [])] [(0, 1, (.s [109, 105, 110])), (1, 1, (.s [77, 73, 78])), (2, 1, (.s [109, 105, 110])), (3, 1, (.s [77, 73, 78])), (4, 1, (.s [109, 105, 110]))]),
    .o 34 (.build [(.int .i64 0), (.int .i64 0)] [(0, 1, (.i 1)), (1, 1, (.i 1))]),
    .o 35 (.buildSlice 1 [(.int .i64 0), (.int .i64 0)] [(0, 2, (.t 34))]),
    .o 36 (.call (.f 85) [(.t 33), (.b false), (.i 0), (.i (-1)), (.i 6), (.i 1), (.i 1), (.t 35)]),
    .o 37 (.build [(.str []), (.str []), (.str []), (.str []), (.str [])] [(0, 1, (.s [104])), (1, 1, (.s [72, 82])), (2, 1, (.s [104])), (3, 1, (.s [72, 82])), (4, 1, (.s [104, 114]))]),
    .o 38 (.build [(.int .i64 0), (.int .i64 0)] [(0, 1, (.i 1)), (1, 1, (.i 1))]),
    .o 39 (.buildSlice 1 [(.int .i64 0), (.int .i64 0)] [(0, 2, (.t 38))]),
    .o 40 (.call (.f 85) [(.t 37), (.b false), (.i 0), (.i (-1)), (.i 36), (.i 1), (.i 2), (.t 39)]),
    .o 41 (.build [(.str []), (.str []), (.str []), (.str []), (.str [])] [(0, 1, (.s [100])), (1, 1, (.s [68])), (2, 1, (.s [100])), (3, 1, (.s [68])), (4, 1, (.s [100]))]),
    .o 42 (.build [(.int .i64 0), (.int .i64 0)] [(0, 1, (.i 32)), (1, 1, (.i 1))]),
    .o 43 (.buildSlice 1 [(.int .i64 0), (.int .i64 0)] [(0, 2, (.t 42))]),
    .o 44 (.call (.f 85) [(.t 41), (.b false), (.i 0), (.i (-1)), (.i 24), (.i 1), (.i 0), (.t 43)]),
    .o 45 (.build [(.str []), (.str []), (.str []), (.str []), (.str [])] [(0, 1, (.s [97])), (1, 1, (.s [65, 78, 78])), (2, 1, (.s [121, 114])), (3, 1, (.s [65, 78, 78])), (4, 1, (.s [121, 114]))]),
    .o 46 (.build [(.int .i64 0), (.int .i64 0)] [(0, 1, (.i 33)), (1, 1, (.i 1))]),
    .o 47 (.buildSlice 1 [(.int .i64 0), (.int .i64 0)] [(0, 2, (.t 46))]),
    .o 48 (.call (.f 85) [(.t 45), (.b false), (.i 0), (.i (-1)), (.i 36525), (.i 1), (.i (-2)), (.t 47)]),
    .o 49 (.build [(.str []), (.str []), (.str []), (.str []), (.str [])] [(0, 1, (.s [116])), (1, 1, (.s [84, 78, 69])), (2, 1, (.s [116])), (3, 1, (.s [84, 78, 69])), (4, 1, (.s [116]))]),
    .o 50 (.build [(.int .i64 0), (.int .i64 0)] [(0, 1, (.i 2)), (1, 1, (.i 1))]),
    .o 51 (.buildSlice 1 [(.int .i64 0), (.int .i64 0)] [(0, 2, (.t 50))]),
    .o 52 (.call (.f 85) [(.t 49), (.b true), (.i 0), (.i (-1)), (.i 1), (.i 1), (.i 6), (.t 51)]),
    .o 53 (.build [(.str []), (.str []), (.str []), (.str []), (.str [])] [(0, 1, (.s [98, 97, 114])), (1, 1, (.s [66, 65, 82])), (2, 1, (.s [98, 97, 114])), (3, 1, (.s [66, 65, 82])), (4, 1, (.s [98, 97, 114]))]),
    .o 54 (.build [(.int .i64 0), (.int .i64 0)] [(0, 1, (.i 12)), (1, 1, (.i 1))]),
    .o 55 (.buildSlice 1 [(.int .i64 0), (.int .i64 0)] [(0, 2, (.t 54))]),
    .o 56 (.call (.f 85) [(.t 53), (.b true), (.i 0), (.i (-1)), (.i 1), (.i 1), (.i 5), (.t 55)]),
    .o 57 (.build [(.str []), (.str []), (.str []), (.str []), (.str [])] [(0, 1, (.s [91, 105, 110, 95, 105, 93])), (1, 1, (.s [91, 73, 78, 95, 73, 93])), (2, 1, (.s [105, 110])), (3, 1, (.s [73, 78])), (4, 1, (.s [105, 110]))]),
    .o 58 (.build [(.int .i64 0), (.int .i64 0)] [(0, 1, (.i 0)), (1, 1, (.i 1))]),
    .o 59 (.buildSlice 1 [(.int .i64 0), (.int .i64 0)] [(0, 2, (.t 58))]),
    .o 60 (.call (.f 85) [(.t 57), (.b false), (.i 0), (.i (-1)), (.i 254), (.i 1), (.i (-4)), (.t 59)]),
    .o 61 (.build [(.str []), (.str []), (.str []), (.str []), (.str [])] [(0, 1, (.s [91, 108, 98, 95, 97, 118, 93])), (1, 1, (.s [91, 76, 66, 95, 65, 86, 93])), (2, 1, (.s [108, 98])), (3, 1, (.s [76, 66])), (4, 1, (.s [108, 98]))]),
    .o 62 (.build [(.int .i64 0), (.int .i64 0)] [(0, 1, (.i 2)), (1, 1, (.i 1))]),
    .o 63 (.buildSlice 1 [(.int .i64 0), (.int .i64 0)] [(0, 2, (.t 62))]),
    .o 64 (.call (.f 85) [(.t 61), (.b false), (.i 0), (.i (-1)), (.i 45359237), (.i 1), (.i (-5)), (.t 63)]),
    .o 65 (.build [(.str []), (.str []), (.str []), (.str []), (.str [])] [(0, 1, (.s [91, 112, 72, 93])), (1, 1, (.s [91, 80, 72, 93])), (2, 1, (.s [112, 72])), (3, 1, (.s [])), (4, 1, (.s []))]),
    .o 66 (.build [(.int .i64 0), (.int .i64 0)] [(0, 1, (.i 8)), (1, 1, (.i 1))]),
    .o 67 (.build [(.int .i64 0), (.int .i64 0)] [(0, 1, (.i 29)), (1, 1, (.i (-1)))]),
    .o 68 (.buildSlice 2 [(.int .i64 0), (.int .i64 0), (.int .i64 0), (.int .i64 0)] [(0, 2, (.t 66)), (2, 2, (.t 67))]),
    .o 69 (.call (.f 85) [(.t 65), (.b false), (.i 2), (.i (-1)), (.i 1), (.i 1), (.i 0), (.t 68)]),
    .o 70 (.build [(.str []), (.str []), (.str []), (.str []), (.str [])] [(0, 1, (.s [66])), (1, 1, (.s [66])), (2, 1, (.s [66])), (3, 1, (.s [])), (4, 1, (.s []))]),
    .o 71 (.call (.f 85) [(.t 70), (.b true), (.i 3), (.i (-1)), (.i 1), (.i 1), (.i 0), (.const .nils)]),
    .o 72 (.build [(.str []), (.str []), (.str []), (.str []), (.str [])] [(0, 1, (.s [91, 105, 85, 93])), (1, 1, (.s [91, 73, 85, 93])), (2, 1, (.s [73, 85])), (3, 1, (.s [])), (4, 1, (.s [73, 85]))]),
    .o 73 (.call (.f 85) [(.t 72), (.b true), (.i 0), (.i (-1)), (.i 1), (.i 1), (.i 0), (.const .nils)]),
    .o 74 (.build [(.str []), (.str []), (.str []), (.str []), (.str [])] [(0, 1, (.s [101, 113])), (1, 1, (.s [69, 81])), (2, 1, (.s [101, 113])), (3, 1, (.s [69, 81])), (4, 1, (.s [101, 113]))]),
    .o 75 (.build [(.int .i64 0), (.int .i64 0)] [(0, 1, (.i 8)), (1, 1, (.i 1))]),
    .o 76 (.buildSlice 1 [(.int .i64 0), (.int .i64 0)] [(0, 2, (.t 75))]),
    .o 77 (.call (.f 85) [(.t 74), (.b true), (.i 0), (.i (-1)), (.i 1), (.i 1), (.i 0), (.t 76)]),
    .o 78 (.build [(.str []), (.str []), (.str []), (.str []), (.str [])] [(0, 1, (.s [111, 115, 109])), (1, 1, (.s [79, 83, 77])), (2, 1, (.s [111, 115, 109])), (3, 1, (.s [79, 83, 77])), (4, 1, (.s [111, 115, 109]))]),
    .o 79 (.build [(.int .i64 0), (.int .i64 0)] [(0, 1, (.i 8)), (1, 1, (.i 1))]),
    .o 80 (.buildSlice 1 [(.int .i64 0), (.int .i64 0)] [(0, 2, (.t 79))]),
    .o 81 (.call (.f 85) [(.t 78), (.b true), (.i 0), (.i (-1)), (.i 1), (.i 1), (.i 0), (.t 80)]),
    .o 82 (.build [(.str []), (.str []), (.str []), (.str []), (.str [])] [(0, 1, (.s [107, 97, 116])), (1, 1, (.s [75, 65, 84])), (2, 1, (.s [107, 97, 116])), (3, 1, (.s [75, 65, 84])), (4, 1, (.s [107, 97, 116]))]),
    .o 83 (.build [(.int .i64 0), (.int .i64 0)] [(0, 1, (.i 8)), (1, 1, (.i 1))]),
    .o 84 (.build [(.int .i64 0), (.int .i64 0)] [(0, 1, (.i 1)), (1, 1, (.i (-1)))]),
    .o 85 (.buildSlice 2 [(.int .i64 0), (.int .i64 0), (.int .i64 0), (.int .i64 0)] [(0, 2, (.t 83)), (2, 2, (.t 84))]),
    .o 86 (.call (.f 85) [(.t 82), (.b true), (.i 0), (.i (-1)), (.i 1), (.i 1), (.i 0), (.t 85)]),
    .o 87 (.build [(.str []), (.str []), (.str []), (.str []), (.str [])] [(0, 1, (.s [117])), (1, 1, (.s [65, 77, 85])), (2, 1, (.s [117])), (3, 1, (.s [85])), (4, 1, (.s [117]))]),
    .o 88 (.build [(.int .i64 0), (.int .i64 0)] [(0, 1, (.i 2)), (1, 1, (.i 1))]),
    .o 89 (.buildSlice 1 [(.int .i64 0), (.int .i64 0)] [(0, 2, (.t 88))]),
    .o 90 (.call (.f 85) [(.t 87), (.b true), (.i 0), (.i (-1)), (.i 16605390666), (.i 1), (.i (-34)), (.t 89)]),
    .o 91 (.build [(.str []), (.str []), (.str []), (.str []), (.str [])] [(0, 1, (.s [101, 86])), (1, 1, (.s [69, 86])), (2, 1, (.s [101, 86])), (3, 1, (.s [69, 86])), (4, 1, (.s [101, 86]))]),
    .o 92 (.build [(.int .i64 0), (.int .i64 0)] [(0, 1, (.i 13)), (1, 1, (.i 1))]),
    .o 93 (.buildSlice 1 [(.int .i64 0), (.int .i64 0)] [(0, 2, (.t 92))]),
    .o 94 (.call (.f 85) [(.t 91), (.b true), (.i 0), (.i (-1)), (.i 1602176634), (.i 1), (.i (-28)), (.t 93)]),
    .o 95 (.build [(.str []), (.str []), (.str []), (.str []), (.str [])] [(0, 1, (.s [91, 100, 114, 95, 97, 118, 93])), (1, 1, (.s [91, 68, 82, 95, 65, 86, 93])), (2, 1, (.s [100, 114])), (3, 1, (.s [])), (4, 1, (.s [100, 114]))]),
    .o 96 (.build [(.int .i64 0), (.int .i64 0)] [(0, 1, (.i 38)), (1, 1, (.i 1))]),
    .o 97 (.buildSlice 1 [(.int .i64 0), (.int .i64 0)] [(0, 2, (.t 96))]),
    .o 98 (.call (.f 85) [(.t 95), (.b false), (.i 0), (.i (-1)), (.i 1), (.i 256), (.i 0), (.t 97)]),
    .o 99 (.buildSlice 24 [(.str []), (.str []), (.str []), (.str []), (.str []), (.bool false), (.int .i64 0), (.int .i64 0), (.int .i64 0), (.int .i64 0), (.int .i64 0), .nils, (.str []), (.str []), (.str []), (.str []), (.str []), (.bool false), (.int .i64 0), (.int .i64 0), (.int .i64 0), (.int .i64 0), (.int .i64 0), .nils, (.str []), (.str []), (.str []), (.str []), (.str []), (.bool false), (.int .i64 0), (.int .i64 0), (.int .i64 0), (.int .i64 0), (.int .i64 0), .nils, (.str []), (.str []), (.str []), (.str []), (.str []), (.bool false), (.int .i64 0), (.int .i64 0), (.int .i64 0), (.int .i64 0), (.int .i64 0), .nils, (.str []), (.str []), (.str []), (.str []), (.str []), (.bool false), (.int .i64 0), (.int .i64 0), (.int .i64 0), (.int .i64 0), (.int .i64 0), .nils, (.str []), (.str []), (.str []), (.str []), (.str []), (.bool false), (.int .i64 0), (.int .i64 0), (.int .i64 0), (.int .i64 0), (.int .i64 0), .nils, (.str []), (.str []), (.str []), (.str []), (.str []), (.bool false), (.int .i64 0), (.int .i64 0), (.int .i64 0), (.int .i64 0), (.int .i64 0), .nils, (.str []), (.str []), (.str []), (.str []), (.str []), (.bool false), (.int .i64 0), (.int .i64 0), (.int .i64 0), (.int .i64 0), (.int .i64 0), .nils, (.str []), (.str []), (.str []), (.str []), (.str []), (.bool false), (.int .i64 0), (.int .i64 0), (.int .i64 0), (.int .i64 0), (.int .i64 0), .nils, (.str []), (.str []), (.str []), (.str []), (.str []), (.bool false), (.int .i64 0), (.int .i64 0), (.int .i64 0), (.int .i64 0), (.int .i64 0), .nils, (.str []), (.str []), (.str []), (.str []), (.str []), (.bool false), (.int .i64 0), (.int .i64 0), (.int .i64 0), (.int .i64 0), (.int .i64 0), .nils, (.str []), (.str []), (.str []), (.str []), (.str []), (.bool false), (.int .i64 0), (.int .i64 0), (.int .i64 0), (.int .i64 0), (.int .i64 0), .nils, (.str []), (.str []), (.str []), (.str []), (.str []), (.bool false), (.int .i64 0), (.int .i64 0), (.int .i64 0), (.int .i64 0), (.int .i64 0), .nils, (.str []), (.str []), (.str []), (.str []), (.str []), (.bool false), (.int .i64 0), (.int .i64 0), (.int .i64 0), (.int .i64 0), (.int .i64 0), .nils, (.str []), (.str []), (.str []), (.str []), (.str []), (.bool false), (.int .i64 0), (.int .i64 0), (.int .i64 0), (.int .i64 0), (.int .i64 0), .nils, (.str []), (.str []), (.str []), (.str []), (.str []), (.bool false), (.int .i64 0), (.int .i64 0), (.int .i64 0), (.int .i64 0), (.int .i64 0), .nils, (.str []), (.str []), (.str []), (.str []), (.str []), (.bool false), (.int .i64 0), (.int .i64 0), (.int .i64 0), (.int .i64 0), (.int .i64 0), .nils, (.str []), (.str []), (.str []), (.str []), (.str []), (.bool false), (.int .i64 0), (.int .i64 0), (.int .i64 0), (.int .i64 0), (.int .i64 0), .nils, (.str []), (.str []), (.str []), (.str []), (.str []), (.bool false), (.int .i64 0), (.int .i64 0), (.int .i64 0), (.int .i64 0), (.int .i64 0), .nils, (.str []), (.str []), (.str []), (.str []), (.str []), (.bool false), (.int .i64 0), (.int .i64 0), (.int .i64 0), (.int .i64 0), (.int .i64 0), .nils, (.str []), (.str []), (.str []), (.str []), (.str []), (.bool false), (.int .i64 0), (.int .i64 0), (.int .i64 0), (.int .i64 0), (.int .i64 0), .nils, (.str []), (.str []), (.str []), (.str []), (.str []), (.bool false), (.int .i64 0), (.int .i64 0), (.int .i64 0), (.int .i64 0), (.int .i64 0), .nils, (.str []), (.str []), (.str []), (.str []), (.str []), (.bool false), (.int .i64 0), (.int .i64 0), (.int .i64 0), (.int .i64 0), (.int .i64 0), .nils, (.str []), (.str []), (.str []), (.str []), (.str []), (.bool false), (.int .i64 0), (.int .i64 0), (.int .i64 0), (.int .i64 0), (.int .i64 0), .nils] [(0, 12, (.t 5)), (12, 12, (.t 10)), (24, 12, (.t 14)), (36, 12, (.t 19)), (48, 12, (.t 24)), (60, 12, (.t 28)), (72, 12, (.t 32)), (84, 12, (.t 36)), (96, 12, (.t 40)), (108, 12, (.t 44)), (120, 12, (.t 48)), (132, 12, (.t 52)), (144, 12, (.t 56)), (156, 12, (.t 60)), (168, 12, (.t 64)), (180, 12, (.t 69)), (192, 12, (.t 71)), (204, 12, (.t 73)), (216, 12, (.t 77)), (228, 12, (.t 81)), (240, 12, (.t 86)), (252, 12, (.t 90)), (264, 12, (.t 94)), (276, 12, (.t 98))]),
    .m 0 99])
  (.ret q72)))⟩
abbrev q73 : List Bool := [X,Z,Z,Z,Z,Z,Z,Z,Z,Z,Z,Z,Z,Z,Z,Z,Z,Z,Z,Z,Z,Z,Z,Z,Z,Z,Z,Z,Z,Z,Z,Z,Z,Z,Z,Z,Z,Z,Z,Z,Z,Z]
def r73 (t0 : AV) : Fr := ⟨[t0,J,J,J,J,J,J,J,J,J,J,J,J,J,J,J,J,J,J,J,J,J,J,J,J,J,J,J,J,J,J,J,J,J,J,J,J,J,J,J,J,J], [], .call⟩
/-- drachm/drachmref05.prefixes -/
def f73 : SFunc := ⟨.closed, 42, [(.tmp 0)],
  (.seq (.region false [
    .o 0 (.mov (.const .nils))])
  (.seq (.region false [
    .o 1 (.build [(.str []), (.str []), (.str []), (.str []), (.str [])] [(0, 1, (.s [89])), (1, 1, (.s [89, 65])), (2, 1, (.s [89])), (3, 1, (.s [])), (4, 1, (.s [89]))]),
    .o 2 (.build [(.str []), (.str []), (.str []), (.str []), (.str []), (.int .i64 0)] [(0, 5, (.t 1)), (5, 1, (.i 24))]),
    .o 3 (.build [(.str []), (.str []), (.str []), (.str []), (.str [])] [(0, 1, (.s [90])), (1, 1, (.s [90, 65])), (2, 1, (.s [90])), (3, 1, (.s [])), (4, 1, (.s [90]))]),
    .o 4 (.build [(.str []), (.str []), (.str []), (.str []), (.str []), (.int .i64 0)] [(0, 5, (.t 3)), (5, 1, (.i 21))]),
    .o 5 (.build [(.str []), (.str []), (.str []), (.str []), (.str [])] [(0, 1, (.s [69])), (1, 1, (.s [69, 88])), (2, 1, (.s [69])), (3, 1, (.s [69])), (4, 1, (.s [69]))]),
    .o 6 (.build [(.str []), (.str []), (.str []), (.str []), (.str []), (.int .i64 0)] [(0, 5, (.t 5)), (5, 1, (.i 18))]),
    .o 7 (.build [(.str []), (.str []), (.str []), (.str []), (.str [])] [(0, 1, (.s [80])), (1, 1, (.s [80, 84])), (2, 1, (.s [80])), (3, 1, (.s [80, 69])), (4, 1, (.s [80]))]),
    .o 8 (.build [(.str []), (.str []), (.str []), (.str []), (.str []), (.int .i64 0)] [(0, 5, (.t 7)), (5, 1, (.i 15))]),
    .o 9 (.build [(.str []), (.str []), (.str []), (.str []), (.str [])] [(0, 1, (.s [84])), (1, 1, (.s [84, 82])), (2, 1, (.s [84])), (3, 1, (.s [84])), (4, 1, (.s [84]))]),
    .o 10 (.build [(.str []), (.str []), (.str []), (.str []), (.str []), (.int .i64 0)] [(0, 5, (.t 9)), (5, 1, (.i 12))]),
    .o 11 (.build [(.str []), (.str []), (.str []), (.str []), (.str [])] [(0, 1, (.s [71])), (1, 1, (.s [71, 65])), (2, 1, (.s [71])), (3, 1, (.s [71])), (4, 1, (.s [71]))]),
    .o 12 (.build [(.str []), (.str []), (.str []), (.str []), (.str []), (.int .i64 0)] [(0, 5, (.t 11)), (5, 1, (.i 9))]),
    .o 13 (.build [(.str []), (.str []), (.str []), (.str []), (.str [])] [(0, 1, (.s [77])), (1, 1, (.s [77, 65])), (2, 1, (.s [77])), (3, 1, (.s [77, 65])), (4, 1, (.s [77]))]),
    .o 14 (.build [(.str []), (.str []), (.str []), (.str []), (.str []), (.int .i64 0)] [(0, 5, (.t 13)), (5, 1, (.i 6))]),
    .o 15 (.build [(.str []), (.str []), (.str []), (.str []), (.str [])] [(0, 1, (.s [107])), (1, 1, (.s [75])), (2, 1, (.s [107])), (3, 1, (.s [75])), (4, 1, (.s [107]))]),
    .o 16 (.build [(.str []), (.str []), (.str []), (.str []), (.str []), (.int .i64 0)] [(0, 5, (.t 15)), (5, 1, (.i 3))]),
    .o 17 (.build [(.str []), (.str []), (.str []), (.str []), (.str [])] [(0, 1, (.s [104])), (1, 1, (.s [72])), (2, 1, (.s [104])), (3, 1, (.s [72])), (4, 1, (.s [104]))]),
    .o 18 (.build [(.str []), (.str []), (.str []), (.str []), (.str []), (.int .i64 0)] [(0, 5, (.t 17)), (5, 1, (.i 2))]),
    .o 19 (.build [(.str []), (.str []), (.str []), (.str []), (.str [])] [(0, 1, (.s [100, 97])), (1, 1, (.s [68, 65])), (2, 1, (.s [100, 97])), (3, 1, (.s [68, 65])), (4, 1, (.s [100, 97]))]),
    .o 20 (.build [(.str []), (.str []), (.str []), (.str []), (.str []), (.int .i64 0)] [(0, 5, (.t 19)), (5, 1, (.i 1))]),
    .o 21 (.build [(.str []), (.str []), (.str []), (.str []), (.str [])] [(0, 1, (.s [100])), (1, 1, (.s [68])), (2, 1, (.s [100])), (3, 1, (.s [68])), (4, 1, (.s [100]))]),
    .o 22 (.build [(.str []), (.str []), (.str []), (.str []), (.str []), (.int .i64 0)] [(0, 5, (.t 21)), (5, 1, (.i (-1)))]),
    .o 23 (.build [(.str []), (.str []), (.str []), (.str []), (.str [])] [(0, 1, (.s [99])), (1, 1, (.s [67])), (2, 1, (.s [99])), (3, 1, (.s [67])), (4, 1, (.s [99]))]),
    .o 24 (.build [(.str []), (.str []), (.str []), (.str []), (.str []), (.int .i64 0)] [(0, 5, (.t 23)), (5, 1, (.i (-2)))]),
    .o 25 (.build [(.str []), (.str []), (.str []), (.str []), (.str [])] [(0, 1, (.s [109])), (1, 1, (.s [77])), (2, 1, (.s [109])), (3, 1, (.s [77])), (4, 1, (.s [109]))]),
    .o 26 (.build [(.str []), (.str []), (.str []), (.str []), (.str []), (.int .i64 0)] [(0, 5, (.t 25)), (5, 1, (.i (-3)))]),
    .o 27 (.build [(.str []), (.str []), (.str []), (.str []), (.str [])] [(0, 1, (.s [117])), (1, 1, (.s [85])), (2, 1, (.s [117])), (3, 1, (.s [85])), (4, 1, (.s [117]))]),
    .o 28 (.build [(.str []), (.str []), (.str []), (.str []), (.str []), (.int .i64 0)] [(0, 5, (.t 27)), (5, 1, (.i (-6)))]),
    .o 29 (.build [(.str []), (.str []), (.str []), (.str []), (.str [])] [(0, 1, (.s [110])), (1, 1, (.s [78])), (2, 1, (.s [110])), (3, 1, (.s [78])), (4, 1, (.s [110]))]),
    .o 30 (.build [(.str []), (.str []), (.str []), (.str []), (.str []), (.int .i64 0)] [(0, 5, (.t 29)), (5, 1, (.i (-9)))]),
    .o 31 (.build [(.str []), (.str []), (.str []), (.str []), (.str [])] [(0, 1, (.s [112])), (1, 1, (.s [80])), (2, 1, (.s [112])), (3, 1, (.s [80])), (4, 1, (.s [112]))]),
    .o 32 (.build [(.str []), (.str []), (.str []), (.str []), (.str []), (.int .i64 0)] [(0, 5, (.t 31)), (5, 1, (.i (-12)))]),
    .o 33 (.build [(.str []), (.str []), (.str []), (.str []), (.str [])] [(0, 1, (.s [102])), (1, 1, (.s [70])), (2, 1, (.s [102])), (3, 1, (.s [70])), (4, 1, (.s [102]))]),
    .o 34 (.build [(.str []), (.str []), (.str []), (.str []), (.str []), (.int .i64 0)] [(0, 5, (.t 33)), (5, 1, (.i (-15)))]),
    .o 35 (.build [(.str []), (.str []), (.str []), (.str []), (.str [])] [(0, 1, (.s [97])), (1, 1, (.s [65])), (2, 1, (.s [97])), (3, 1, (.s [65])), (4, 1, (.s [97]))]),
    .o 36 (.build [(.str []), (.str []), (.str []), (.str []), (.str []), (.int .i64 0)] [(0, 5, (.t 35)), (5, 1, (.i (-18)))]),
    .o 37 (.build [(.str []), (.str []), (.str []), (.str []), (.str [])] [(0, 1, (.s [122])), (1, 1, (.s [90, 79])), (2, 1, (.s [122])), (3, 1, (.s [])), (4, 1, (.s [122]))]),
    .o 38 (.build [(.str []), (.str []), (.str []), (.str []), (.str []), (.int .i64 0)] [(0, 5, (.t 37)), (5, 1, (.i (-21)))]),
    .o 39 (.build [(.str []), (.str []), (.str []), (.str []), (.str [])] [(0, 1, (.s [121])), (1, 1, (.s [89, 79])), (2, 1, (.s [121])), (3, 1, (.s [])), (4, 1, (.s [121]))]),
    .o 40 (.build [(.str []), (.str []), (.str []), (.str []), (.str []), (.int .i64 0)] [(0, 5, (.t 39)), (5, 1, (.i (-24)))]),
    .o 41 (.buildSlice 20 [(.str []), (.str []), (.str []), (.str []), (.str []), (.int .i64 0), (.str []), (.str []), (.str []), (.str []), (.str []), (.int .i64 0), (.str []), (.str []), (.str []), (.str []), (.str []), (.int .i64 0), (.str []), (.str []), (.str []), (.str []), (.str []), (.int .i64 0), (.str []), (.str []), (.str []), (.str []), (.str []), (.int .i64 0), (.str []), (.str []), (.str []), (.str []), (.str []), (.int .i64 0), (.str []), (.str []), (.str []), (.str []), (.str []), (.int .i64 0), (.str []), (.str []), (.str []), (.str []), (.str []), (.int .i64 0), (.str []), (.str []), (.str []), (.str []), (.str []), (.int .i64 0), (.str []), (.str []), (.str []), (.str []), (.str []), (.int .i64 0), (.str []), (.str []), (.str []), (.str []), (.str []), (.int .i64 0), (.str []), (.str []), (.str []), (.str []), (.str []), (.int .i64 0), (.str []), (.str []), (.str []), (.str []), (.str []), (.int .i64 0), (.str []), (.str []), (.str []), (.str []), (.str []), (.int .i64 0), (.str []), (.str []), (.str []), (.str []), (.str []), (.int .i64 0), (.str []), (.str []), (.str []), (.str []), (.str []), (.int .i64 0), (.str []), (.str []), (.str []), (.str []), (.str []), (.int .i64 0), (.str []), (.str []), (.str []), (.str []), (.str []), (.int .i64 0), (.str []), (.str []), (.str []), (.str []), (.str []), (.int .i64 0), (.str []), (.str []), (.str []), (.str []), (.str []), (.int .i64 0)] [(0, 6, (.t 2)), (6, 6, (.t 4)), (12, 6, (.t 6)), (18, 6, (.t 8)), (24, 6, (.t 10)), (30, 6, (.t 12)), (36, 6, (.t 14)), (42, 6, (.t 16)), (48, 6, (.t 18)), (54, 6, (.t 20)), (60, 6, (.t 22)), (66, 6, (.t 24)), (72, 6, (.t 26)), (78, 6, (.t 28)), (84, 6, (.t 30)), (90, 6, (.t 32)), (96, 6, (.t 34)), (102, 6, (.t 36)), (108, 6, (.t 38)), (114, 6, (.t 40))]),
    .m 0 41])
  (.ret q73)))⟩
abbrev q74 : List Bool := [Z,Z,Z,Z,Z,Z,X,Z,Z,Z,Z,Z,Z,Z,Z,Z,Z,Z,Z,Z,Z,Z,Z,Z,Z,Z,Z,Z,Z,Z,Z,Z,Z,Z,Z,Z,Z,Z,Z,Z,Z,Z,Z,Z,Z,Z,Z,Z,Z,Z,Z,Z,Z,Z,Z,Z,Z,Z,Z,Z,Z]
def r74 (t6 : AV) : Fr := ⟨[J,J,J,J,J,J,t6,J,J,J,J,J,J,J,J,J,J,J,J,J,J,J,J,J,J,J,J,J,J,J,J,J,J,J,J,J,J,J,J,J,J,J,J,J,J,J,J,J,J,J,J,J,J,J,J,J,J,J,J,J,J], [], .call⟩
abbrev q74_0 : List Bool := [Z,Z,Z,Z,Z,Z,X,Z,Z,Z,Z,Z,Z,Z,Z,Z,Z,Z,Z,Z,Z,Z,Z,Z,Z,Z,Z,Z,Z,Z,Z,Z,Z,Z,Z,Z,Z,Z,Z,Z,Z,Z,Z,Z,Z,Z,Z,Z,Z,Z,Z,Z,Z,Z,Z,Z,Z,Z,Z,Z,Z]
abbrev q74_1 : List Bool := [Z,X,X,X,Z,Z,X,Z,X,Z,Z,Z,Z,Z,Z,Z,Z,Z,Z,Z,Z,Z,Z,Z,Z,Z,Z,Z,Z,Z,Z,Z,Z,Z,Z,Z,Z,Z,Z,Z,Z,Z,Z,Z,Z,Z,Z,Z,Z,Z,Z,Z,Z,Z,Z,Z,Z,Z,Z,Z,Z]
def x74_1 (t1 t2 t3 t6 t8 : AV) : Fr := ⟨[J,t1,t2,t3,J,J,t6,J,t8,J,J,J,J,J,J,J,J,J,J,J,J,J,J,J,J,J,J,J,J,J,J,J,J,J,J,J,J,J,J,J,J,J,J,J,J,J,J,J,J,J,J,J,J,J,J,J,J,J,J,J,J], [], .call⟩
abbrev k74_0 : List Bool := [Z,X,X,X,Z,Z,X,Z,X,Z,Z,Z,Z,Z,Z,Z,Z,Z,Z,Z,Z,Z,Z,Z,Z,Z,Z,Z,Z,Z,Z,Z,Z,Z,Z,Z,Z,Z,Z,Z,Z,Z,Z,Z,Z,Z,Z,Z,Z,Z,Z,Z,Z,Z,Z,Z,Z,Z,Z,Z,Z]
def l74_0 : SCode := (.seq (.seq (.region false [
    .m 19 8,
    .o 20 (.fieldAddr 1 (.t 3)),
    .o 21 (.load false 1 (.t 20)),
    .o 22 (.len .slc (.t 21)),
    .o 23 (.bin .lss .none (.t 19) (.t 22))])
  (.cond (.t 23)
  .skip
  (.exit 0 q74_0)))
  (.seq (.block 1 q74_1
  (.seq (.region false [
    .o 26 (.fieldAddr 1 (.t 3)),
    .o 27 (.load false 1 (.t 26)),
    .m 28 8,
    .m 29 1,
    .o 30 (.bin .sub .none (.t 29) (.i 1)),
    .o 31 (.indexAddrVs 6 (.t 27) (.t 28)),
    .o 32 (.fieldAddr 0 (.t 31)),
    .o 33 (.indexAddrArr 5 1 (.t 32) (.t 30)),
    .o 34 (.load false 1 (.t 33)),
    .m 9 34])
  (.seq (.region false [
    .m 35 2,
    .m 36 9,
    .o 37 (.call (.f 87) [(.t 35), (.t 36)]),
    .m 10 37])
  (.seq (.seq (.region false [
    .m 38 10,
    .o 39 (.un .not (.t 38))])
  (.cond (.t 39)
  (.exit 1 q74_1)
  .skip))
  (.seq (.region true [
    .o 40 (.load true 2 (.t 3)),
    .m 41 1,
    .m 42 2,
    .m 43 9,
    .o 44 (.len .str (.t 43)),
    .o 45 (.sliceStr (.t 42) (some (.t 44)) none),
    .o 46 (.call (.f 86) [(.t 40), (.t 41), (.t 45)]),
    .m 7 46])
  (.seq (.region false [
    .m 47 7,
    .o 48 (.bin .geq .none (.t 47) (.i 0)),
    .m 49 48,
    .g 50 49 true (.fieldAddr 0 (.t 3)),
    .g 51 49 true (.load false 1 (.t 50)),
    .gm 52 49 true 7,
    .g 53 49 true (.indexAddrVs 12 (.t 51) (.t 52)),
    .g 54 49 true (.fieldAddr 5 (.t 53)),
    .g 55 49 true (.load false 1 (.t 54)),
    .o 56 (.pick (.t 49) (.t 55) (.b false))])
  (.cond (.t 56)
  (.seq (.region false [
    .m 57 8,
    .m 58 7,
    .o 59 (.build [(.int .i64 0), (.int .i64 0), (.bool false)] [(0, 1, (.t 57)), (1, 1, (.t 58)), (2, 1, (.b true))]),
    .n (.store 3 (.t 6) (.t 59))])
  (.ret q74))
  .skip)))))))
  (.region false [
    .m 24 8,
    .o 25 (.bin .add .none (.t 24) (.i 1)),
    .m 8 25])))
def s74_0 (t1 t2 t3 t6 t8 : AV) : Fr := ⟨[J,t1,t2,t3,J,J,t6,J,t8,J,J,J,J,J,J,J,J,J,J,J,J,J,J,J,J,J,J,J,J,J,J,J,J,J,J,J,J,J,J,J,J,J,J,J,J,J,J,J,J,J,J,J,J,J,J,J,J,J,J,J,J], [], .call⟩
def x74_0 (t6 : AV) : Fr := ⟨[J,J,J,J,J,J,t6,J,J,J,J,J,J,J,J,J,J,J,J,J,J,J,J,J,J,J,J,J,J,J,J,J,J,J,J,J,J,J,J,J,J,J,J,J,J,J,J,J,J,J,J,J,J,J,J,J,J,J,J,J,J], [], .call⟩
/-- drachm/drachmref10.find -/
def f74 : SFunc := ⟨.closed, 61, [(.cell 6 true 3)],
  (.seq (.region false [
    .o 3 (.box 2 (.t 0)),
    .o 6 (.alloc [(.int .i64 0), (.int .i64 0), (.bool false)])])
  (.seq (.region false [
    .o 11 (.load true 2 (.t 3)),
    .m 12 1,
    .m 13 2,
    .o 14 (.call (.f 86) [(.t 11), (.t 12), (.t 13)]),
    .m 7 14])
  (.seq (.seq (.region false [
    .m 15 7,
    .o 16 (.bin .geq .none (.t 15) (.i 0))])
  (.cond (.t 16)
  (.seq (.region false [
    .m 17 7,
    .o 18 (.build [(.int .i64 0), (.int .i64 0), (.bool false)] [(0, 1, (.i (-1))), (1, 1, (.t 17)), (2, 1, (.b true))]),
    .n (.store 3 (.t 6) (.t 18))])
  (.ret q74))
  .skip))
  (.seq (.seq (.region false [
    .o 8 (.mov (.i 0))])
  (.block 0 q74_0
  (.loop k74_0 l74_0)))
  (.seq (.region false [
    .o 60 (.build [(.int .i64 0), (.int .i64 0), (.bool false)] [(0, 1, (.i (-1))), (1, 1, (.i (-1)))]),
    .n (.store 3 (.t 6) (.t 60))])
  (.ret q74))))))⟩
abbrev q75 : List Bool := [Z,Z,Z,Z,X,Z,Z,Z,Z,Z,Z,Z,Z,Z,Z,Z,Z,Z]
def r75 (t4 : AV) : Fr := ⟨[J,J,J,J,t4,J,J,J,J,J,J,J,J,J,J,J,J,J], [], .call⟩
/-- internal/stringslite.HasPrefix -/
def f75 : SFunc := ⟨.closed, 18, [(.tmp 4)],
  (.seq (.region false [
    .o 4 (.mov (.b false))])
  (.seq (.region false [
    .m 5 0,
    .o 6 (.len .str (.t 5)),
    .m 7 1,
    .o 8 (.len .str (.t 7)),
    .o 9 (.bin .geq .none (.t 6) (.t 8)),
    .m 10 9,
    .gm 11 10 true 0,
    .gm 12 10 true 1,
    .g 13 10 true (.len .str (.t 12)),
    .g 14 10 true (.sliceStr (.t 11) none (some (.t 13))),
    .gm 15 10 true 1,
    .g 16 10 true (.bin .eql .none (.t 14) (.t 15)),
    .o 17 (.pick (.t 10) (.t 16) (.b false)),
    .m 4 17])
  (.ret q75)))⟩
abbrev q76 : List Bool := [Z,Z,Z,Z,X,Z,Z,Z,Z,Z]
def r76 (t4 : AV) : Fr := ⟨[J,J,J,J,t4,J,J,J,J,J], [], .call⟩
/-- drachm/lex.run$1 -/
def f76 : SFunc := ⟨.reader, 10, [(.tmp 4)],
  (.seq (.region false [
    .o 4 (.mov (.b false))])
  (.seq (.region true [
    .o 5 (.load false 1 (.t 1)),
    .m 6 0,
    .o 7 (.call (.f 62) [(.t 5), (.t 6)]),
    .o 8 (.load false 1 (.t 2)),
    .o 9 (.bin .neq .none (.t 7) (.t 8)),
    .m 4 9])
  (.ret q76)))⟩
abbrev q77_0 : List Bool := [Z,Z,Z,Z,Z,X,Z,Z,Z,Z,Z,Z,Z,Z,Z,Z,Z,Z,Z,Z,Z,Z,Z,Z,Z,Z]
abbrev q77_1 : List Bool := [Z,X,Z,Z,Z,X,Z,Z,Z,Z,X,X,X,Z,Z,Z,Z,Z,Z,Z,Z,Z,Z,Z,Z,Z]
def x77_1 (t1 t5 t10 t11 t12 : AV) : Fr := ⟨[J,t1,J,J,J,t5,J,J,J,J,t10,t11,t12,J,J,J,J,J,J,J,J,J,J,J,J,J], [], .call⟩
abbrev k77_0 : List Bool := [Z,X,Z,Z,Z,X,Z,Z,Z,Z,X,X,X,Z,Z,Z,Z,Z,Z,Z,Z,Z,Z,Z,Z,Z]
def l77_0 : SCode := (.seq (.region false [
    .o 13 (.bin .lss .none (.t 12) (.t 11))])
  (.seq (.cond (.t 13)
  .skip
  (.exit 0 q77_0))
  (.seq (.block 1 q77_1
  (.seq (.region false [
    .m 14 12,
    .o 15 (.indexAddrVs 1 (.t 10) (.t 12)),
    .o 16 (.load false 1 (.t 15)),
    .m 6 14,
    .m 7 16])
  (.region false [
    .m 17 5,
    .m 18 6,
    .m 19 1,
    .m 20 7,
    .o 21 (.call (.t 19) [(.t 20)]),
    .o 22 (.indexAddrVs 1 (.t 17) (.t 18)),
    .n (.store 1 (.t 22) (.t 21))])))
  (.region false [
    .o 23 (.bin .add .none (.t 12) (.i 1)),
    .m 12 23]))))
def s77_0 (t1 t5 t10 t11 t12 : AV) : Fr := ⟨[J,t1,J,J,J,t5,J,J,J,J,t10,t11,t12,J,J,J,J,J,J,J,J,J,J,J,J,J], [], .call⟩
def x77_0 (t5 : AV) : Fr := ⟨[J,J,J,J,J,t5,J,J,J,J,J,J,J,J,J,J,J,J,J,J,J,J,J,J,J,J], [], .call⟩
abbrev q77 : List Bool := [Z,Z,Z,Z,X,Z,Z,Z,Z,Z,Z,Z,Z,Z,Z,Z,Z,Z,Z,Z,Z,Z,Z,Z,Z,Z]
def r77 (t4 : AV) : Fr := ⟨[J,J,J,J,t4,J,J,J,J,J,J,J,J,J,J,J,J,J,J,J,J,J,J,J,J,J], [], .call⟩
/-- drachm/style.mapped -/
def f77 : SFunc := ⟨.reader, 26, [(.tmp 4)],
  (.seq (.region false [
    .o 4 (.mov (.s []))])
  (.seq (.region false [
    .m 8 0,
    .o 9 (.conv .toBytes (.t 8)),
    .m 5 9])
  (.seq (.seq (.region false [
    .m 10 5,
    .o 11 (.len .slc (.t 10)),
    .o 12 (.mov (.i 0))])
  (.block 0 q77_0
  (.loop k77_0 l77_0)))
  (.seq (.region false [
    .m 24 5,
    .o 25 (.conv .toStr (.t 24)),
    .m 4 25])
  (.ret q77)))))⟩
abbrev q78 : List Bool := [Z,Z,Z,X,Z,Z,Z,Z,Z,Z,Z,Z,Z,Z,Z,Z,Z,Z]
def r78 (t3 : AV) : Fr := ⟨[J,J,J,t3,J,J,J,J,J,J,J,J,J,J,J,J,J,J], [], .call⟩
/-- drachm/style.Raise$1 -/
def f78 : SFunc := ⟨.reader, 18, [(.tmp 3)],
  (.seq (.region false [
    .o 3 (.mov (.const (.int .u8 0)))])
  (.seq (.seq (.region false [
    .o 4 (.fieldAddr 0 (.t 1)),
    .o 5 (.load false 1 (.t 4)),
    .m 6 5,
    .gm 7 6 true 0,
    .g 8 6 true (.bin .leq .none (.const (.int .u8 97)) (.t 7)),
    .o 9 (.pick (.t 6) (.t 8) (.b false)),
    .m 10 9,
    .gm 11 10 true 0,
    .g 12 10 true (.bin .leq .none (.t 11) (.const (.int .u8 122))),
    .o 13 (.pick (.t 10) (.t 12) (.b false))])
  (.cond (.t 13)
  (.seq (.region false [
    .m 14 0,
    .o 15 (.bin .sub .none (.t 14) (.const (.int .u8 97))),
    .o 16 (.bin .add .none (.t 15) (.const (.int .u8 65))),
    .m 3 16])
  (.ret q78))
  .skip))
  (.seq (.region false [
    .m 17 0,
    .m 3 17])
  (.ret q78))))⟩
abbrev q79 : List Bool := [Z,Z,Z,Z,Z,Z,X,X,Z,Z,Z,Z,Z,Z,Z,Z,Z,Z,Z,Z,Z,Z,Z,Z,Z,Z,Z,Z,Z,Z,Z,Z,Z,Z,Z,Z,Z,Z,Z,Z,Z,Z,Z,Z,Z,Z,Z,Z,Z,Z,Z,Z,Z,Z,Z,Z,Z,Z,Z,Z,Z,Z,Z,Z,Z,Z,Z,Z,Z,Z,Z,Z,Z]
def r79 (t6 t7 : AV) : Fr := ⟨[J,J,J,J,J,J,t6,t7,J,J,J,J,J,J,J,J,J,J,J,J,J,J,J,J,J,J,J,J,J,J,J,J,J,J,J,J,J,J,J,J,J,J,J,J,J,J,J,J,J,J,J,J,J,J,J,J,J,J,J,J,J,J,J,J,J,J,J,J,J,J,J,J,J], [], .call⟩
abbrev q79_0 : List Bool := [X,X,X,Z,Z,Z,Z,Z,X,Z,Z,Z,Z,Z,Z,Z,Z,Z,Z,Z,Z,Z,Z,Z,Z,Z,Z,Z,Z,Z,Z,Z,Z,Z,Z,Z,Z,Z,Z,Z,Z,Z,Z,Z,Z,Z,Z,Z,Z,Z,Z,Z,Z,Z,Z,Z,Z,Z,Z,Z,Z,Z,Z,Z,Z,Z,Z,Z,Z,Z,Z,Z,Z]
def x79_0 (t0 t1 t2 t8 : AV) : Fr := ⟨[t0,t1,t2,J,J,J,J,J,t8,J,J,J,J,J,J,J,J,J,J,J,J,J,J,J,J,J,J,J,J,J,J,J,J,J,J,J,J,J,J,J,J,J,J,J,J,J,J,J,J,J,J,J,J,J,J,J,J,J,J,J,J,J,J,J,J,J,J,J,J,J,J,J,J], [], .call⟩
/-- internal/strconv.ParseInt -/
def f79 : SFunc := ⟨.closed, 73, [(.tmp 6), (.tmp 7)],
  (.seq (.region false [
    .o 6 (.mov (.i 0)),
    .o 7 (.mov (.const .niliface))])
  (.seq (.seq (.region false [
    .m 12 0,
    .o 13 (.bin .eql .none (.t 12) (.s []))])
  (.cond (.t 13)
  (.seq (.region false [
    .o 14 (.mkIface 1 (.i 2)),
    .o 6 (.mov (.i 0)),
    .m 7 14])
  (.ret q79))
  .skip))
  (.seq (.region false [
    .o 8 (.mov (.b false))])
  (.seq (.seq (.region false [
    .m 15 0,
    .o 16 (.indexStr (.t 15) (.i 0))])
  (.block 0 q79_0
  (.seq (.region false [
    .o 18 (.bin .eql .none (.t 16) (.const (.int .u8 43))),
    .m 17 18])
  (.cond (.t 17)
  (.region false [
    .m 19 0,
    .o 20 (.sliceStr (.t 19) (some (.i 1)) none),
    .m 0 20])
  (.seq (.region false [
    .o 22 (.bin .eql .none (.t 16) (.const (.int .u8 45))),
    .m 21 22])
  (.cond (.t 21)
  (.seq (.region false [
    .m 23 0,
    .o 24 (.sliceStr (.t 23) (some (.i 1)) none),
    .m 0 24])
  (.region false [
    .o 8 (.mov (.b true))]))
  .skip))))))
  (.seq (.region false [
    .o 9 (.mov (.const (.int .u64 0)))])
  (.seq (.region false [
    .m 26 0,
    .m 27 1,
    .m 28 2,
    .o 29 (.call (.f 88) [(.t 26), (.t 27), (.t 28)]),
    .m 25 29,
    .o 30 (.extract 0 (.t 25)),
    .o 31 (.extract 1 (.t 25)),
    .m 9 30,
    .m 7 31])
  (.seq (.seq (.region false [
    .m 32 7,
    .o 33 (.bin .neq .ifc (.t 32) (.const .niliface)),
    .m 34 33,
    .gm 35 34 true 7,
    .g 36 34 true (.mkIface 1 (.i 1)),
    .g 37 34 true (.bin .neq (.ifi [1]) (.t 35) (.t 36)),
    .o 38 (.pick (.t 34) (.t 37) (.b false))])
  (.cond (.t 38)
  (.seq (.region false [
    .m 39 7,
    .o 6 (.mov (.i 0)),
    .m 7 39])
  (.ret q79))
  .skip))
  (.seq (.seq (.region false [
    .m 40 2,
    .o 41 (.bin .eql .none (.t 40) (.i 0))])
  (.cond (.t 41)
  (.region false [
    .o 2 (.mov (.i 64))])
  .skip))
  (.seq (.region false [
    .m 42 2,
    .o 43 (.bin .sub .none (.t 42) (.i 1)),
    .o 44 (.conv (.int .u64) (.t 43)),
    .o 45 (.bin .shl .none (.const (.int .u64 1)) (.t 44)),
    .m 10 45])
  (.seq (.seq (.region false [
    .m 46 8,
    .o 47 (.un .not (.t 46)),
    .m 48 47,
    .gm 49 48 true 9,
    .gm 50 48 true 10,
    .g 51 48 true (.bin .geq .none (.t 49) (.t 50)),
    .o 52 (.pick (.t 48) (.t 51) (.b false))])
  (.cond (.t 52)
  (.seq (.region false [
    .m 53 10,
    .o 54 (.bin .sub .none (.t 53) (.const (.int .u64 1))),
    .o 55 (.conv (.int .i64) (.t 54)),
    .o 56 (.mkIface 1 (.i 1)),
    .m 6 55,
    .m 7 56])
  (.ret q79))
  .skip))
  (.seq (.seq (.region false [
    .m 57 8,
    .m 58 57,
    .gm 59 58 true 9,
    .gm 60 58 true 10,
    .g 61 58 true (.bin .gtr .none (.t 59) (.t 60)),
    .o 62 (.pick (.t 58) (.t 61) (.b false))])
  (.cond (.t 62)
  (.seq (.region false [
    .m 63 10,
    .o 64 (.conv (.int .i64) (.t 63)),
    .o 65 (.un .neg (.t 64)),
    .o 66 (.mkIface 1 (.i 1)),
    .m 6 65,
    .m 7 66])
  (.ret q79))
  .skip))
  (.seq (.region false [
    .m 67 9,
    .o 68 (.conv (.int .i64) (.t 67)),
    .m 11 68])
  (.seq (.seq (.region false [
    .m 69 8])
  (.cond (.t 69)
  (.region false [
    .m 70 11,
    .o 71 (.un .neg (.t 70)),
    .m 11 71])
  .skip))
  (.seq (.region false [
    .m 72 11,
    .m 6 72,
    .o 7 (.mov (.const .niliface))])
  (.ret q79)))))))))))))))⟩
abbrev q80 : List Bool := [Z,Z,Z,Z,Z,Z,Z,Z,Z,Z,X,Z,Z,Z,Z,Z,Z,Z,Z,Z,Z,Z,Z,Z,Z,Z,Z,Z,Z,Z,Z,Z,Z,Z,Z,Z,Z,Z,Z,Z,Z,Z,Z]
def r80 (t10 : AV) : Fr := ⟨[J,J,J,J,J,J,J,J,J,J,t10,J,J,J,J,J,J,J,J,J,J,J,J,J,J,J,J,J,J,J,J,J,J,J,J,J,J,J,J,J,J,J,J], [], .call⟩
abbrev q80_0 : List Bool := [Z,Z,Z,Z,X,Z,Z,Z,Z,Z,Z,Z,Z,Z,Z,Z,Z,Z,Z,Z,Z,Z,Z,Z,Z,Z,Z,Z,Z,Z,Z,Z,Z,Z,Z,Z,Z,Z,Z,Z,Z,Z,Z]
def x80_0 (t4 : AV) : Fr := ⟨[J,J,J,J,t4,J,J,J,J,J,J,J,J,J,J,J,J,J,J,J,J,J,J,J,J,J,J,J,J,J,J,J,J,J,J,J,J,J,J,J,J,J,J], [], .call⟩
/-- strconv.toError -/
def f80 : SFunc := ⟨.open_, 43, [(.tmp 10)],
  (.seq (.region false [
    .o 10 (.mov (.const .niliface))])
  (.seq (.seq (.region false [
    .m 11 4])
  (.block 0 q80_0
  (.seq (.region false [
    .o 13 (.mkIface 1 (.i 2)),
    .o 14 (.bin .eql (.ifi [1]) (.t 11) (.t 13)),
    .m 12 14])
  (.cond (.t 12)
  (.seq (.region false [
    .m 15 0,
    .m 16 1,
    .o 17 (.call (.f 89) [(.t 15), (.t 16)]),
    .o 18 (.mkIface 2 (.t 17)),
    .m 10 18])
  (.ret q80))
  (.seq (.region false [
    .o 20 (.mkIface 1 (.i 1)),
    .o 21 (.bin .eql (.ifi [1]) (.t 11) (.t 20)),
    .m 19 21])
  (.cond (.t 19)
  (.seq (.region false [
    .m 22 0,
    .m 23 1,
    .o 24 (.call (.f 90) [(.t 22), (.t 23)]),
    .o 25 (.mkIface 2 (.t 24)),
    .m 10 25])
  (.ret q80))
  (.seq (.region false [
    .o 27 (.mkIface 1 (.i 3)),
    .o 28 (.bin .eql (.ifi [1]) (.t 11) (.t 27)),
    .m 26 28])
  (.cond (.t 26)
  (.seq (.region false [
    .m 29 0,
    .m 30 1,
    .m 31 2,
    .o 32 (.call (.f 91) [(.t 29), (.t 30), (.t 31)]),
    .o 33 (.mkIface 2 (.t 32)),
    .m 10 33])
  (.ret q80))
  (.seq (.region false [
    .o 35 (.mkIface 1 (.i 4)),
    .o 36 (.bin .eql (.ifi [1]) (.t 11) (.t 35)),
    .m 34 36])
  (.cond (.t 34)
  (.seq (.region false [
    .m 37 0,
    .m 38 1,
    .m 39 3,
    .o 40 (.call (.f 92) [(.t 37), (.t 38), (.t 39)]),
    .o 41 (.mkIface 2 (.t 40)),
    .m 10 41])
  (.ret q80))
  .skip))))))))))
  (.seq (.region false [
    .m 42 4,
    .m 10 42])
  (.ret q80))))⟩
abbrev q82 : List Bool := [Z,Z,Z,Z,X,Z,Z,Z,Z,Z,Z,Z,Z,Z,Z,Z,Z,Z,Z,Z,Z,Z]
def r82 (t4 : AV) : Fr := ⟨[J,J,J,J,t4,J,J,J,J,J,J,J,J,J,J,J,J,J,J,J,J,J], [], .call⟩
/-- (*drachm/parse.parser).is -/
def f82 : SFunc := ⟨.reader, 22, [(.tmp 4)],
  (.seq (.region false [
    .o 4 (.mov (.b false))])
  (.seq (.region false [
    .m 5 0,
    .o 6 (.nilCheck (.t 5)),
    .o 7 (.fieldAddr 9 (.t 6)),
    .o 8 (.load false 1 (.t 7)),
    .o 9 (.len .slc (.t 8)),
    .o 10 (.bin .gtr .none (.t 9) (.i 0)),
    .m 11 10,
    .gm 12 11 true 0,
    .g 13 11 true (.nilCheck (.t 12)),
    .g 14 11 true (.fieldAddr 9 (.t 13)),
    .g 15 11 true (.load false 1 (.t 14)),
    .g 16 11 true (.indexAddrVs 4 (.t 15) (.i 0)),
    .g 17 11 true (.fieldAddr 0 (.t 16)),
    .g 18 11 true (.load false 1 (.t 17)),
    .gm 19 11 true 1,
    .g 20 11 true (.bin .eql .none (.t 18) (.t 19)),
    .o 21 (.pick (.t 11) (.t 20) (.b false)),
    .m 4 21])
  (.ret q82)))⟩
abbrev q83 : List Bool := [Z,Z,X,Z,Z,Z,Z,Z,Z,Z,Z,Z,Z,Z,Z,Z,Z,Z,Z]
def r83 (t2 : AV) : Fr := ⟨[J,J,t2,J,J,J,J,J,J,J,J,J,J,J,J,J,J,J,J], [], .call⟩
/-- (*drachm/parse.parser).take -/
def f83 : SFunc := ⟨.open_, 19, [(.cell 2 true 4)],
  (.seq (.region false [
    .o 2 (.alloc [(.int .i64 0), (.int .i64 0), (.str []), (.int .i64 0)])])
  (.seq (.region false [
    .m 4 0,
    .o 5 (.nilCheck (.t 4)),
    .o 6 (.fieldAddr 9 (.t 5)),
    .o 7 (.load false 1 (.t 6)),
    .o 8 (.indexAddrVs 4 (.t 7) (.i 0)),
    .o 9 (.load true 4 (.t 8)),
    .o 3 (.alloc [(.int .i64 0), (.int .i64 0), (.str []), (.int .i64 0)]),
    .n (.store 4 (.t 3) (.t 9))])
  (.seq (.region false [
    .m 10 0,
    .m 11 0,
    .o 12 (.nilCheck (.t 11)),
    .o 13 (.fieldAddr 9 (.t 12)),
    .o 14 (.load false 1 (.t 13)),
    .o 15 (.sliceVs 4 (.t 14) (some (.i 1)) none none),
    .o 16 (.nilCheck (.t 10)),
    .o 17 (.fieldAddr 9 (.t 16)),
    .n (.store 1 (.t 17) (.t 15))])
  (.seq (.region false [
    .o 18 (.load true 4 (.t 3)),
    .n (.store 4 (.t 2) (.t 18))])
  (.ret q83)))))⟩
abbrev q84 : List Bool := [Z,Z,X,Z,Z,Z,Z,Z,Z,Z,Z,Z,Z,Z,Z,Z,Z,Z,Z,Z,Z,Z,Z,Z,Z,Z,Z,Z,Z,Z,Z,Z,Z,Z,Z,Z,Z,Z,Z,Z,Z,Z,Z,Z,Z,Z,Z,Z,Z,Z,Z,Z]
def r84 (t2 : AV) : Fr := ⟨[J,J,t2,J,J,J,J,J,J,J,J,J,J,J,J,J,J,J,J,J,J,J,J,J,J,J,J,J,J,J,J,J,J,J,J,J,J,J,J,J,J,J,J,J,J,J,J,J,J,J,J,J], [], .call⟩
abbrev q84_0 : List Bool := [X,Z,Z,Z,Z,Z,Z,Z,Z,Z,Z,Z,Z,Z,Z,Z,Z,Z,Z,Z,Z,Z,Z,Z,Z,Z,Z,Z,Z,Z,Z,Z,Z,Z,Z,Z,Z,Z,Z,Z,Z,Z,Z,Z,Z,Z,Z,Z,Z,Z,Z,Z]
def x84_0 (t0 : AV) : Fr := ⟨[t0,J,J,J,J,J,J,J,J,J,J,J,J,J,J,J,J,J,J,J,J,J,J,J,J,J,J,J,J,J,J,J,J,J,J,J,J,J,J,J,J,J,J,J,J,J,J,J,J,J,J,J], [], .call⟩
/-- (*drachm/parse.parser).base -/
def f84 : SFunc := ⟨.open_, 52, [(.tmp 2)],
  (.seq (.region false [
    .o 2 (.mov (.const .nils))])
  (.seq (.block 0 q84_0
  (.seq (.region false [
    .m 5 0,
    .o 6 (.call (.f 82) [(.t 5), (.i 1)]),
    .m 4 6])
  (.cond (.t 4)
  (.seq (.region false [
    .m 7 0,
    .o 8 (.call (.f 94) [(.t 7)]),
    .m 2 8])
  (.ret q84))
  (.seq (.region false [
    .m 10 0,
    .o 11 (.call (.f 82) [(.t 10), (.i 2)]),
    .m 9 11])
  (.cond (.t 9)
  (.seq (.region false [
    .m 12 0,
    .o 13 (.call (.f 95) [(.t 12), (.i 1), (.i 9223372036854775807)]),
    .o 14 (.build [(.int .i64 0), (.int .i64 0), (.int .i64 0), (.int .i64 0), (.int .i64 0), (.str [])] [(0, 1, (.i 1)), (1, 1, (.i (-1))), (4, 1, (.t 13))]),
    .o 15 (.buildSlice 1 [(.int .i64 0), (.int .i64 0), (.int .i64 0), (.int .i64 0), (.int .i64 0), (.str [])] [(0, 6, (.t 14))]),
    .m 2 15])
  (.ret q84))
  .skip)))))
  (.seq (.region false [
    .m 16 0,
    .m 17 0,
    .o 18 (.call (.f 82) [(.t 17), (.i 7)]),
    .o 19 (.call (.f 50) [(.t 16), (.t 18)])])
  (.seq (.seq (.region false [
    .m 20 0,
    .o 21 (.nilCheck (.t 20)),
    .o 22 (.fieldAddr 2 (.t 21)),
    .o 23 (.load false 1 (.t 22)),
    .o 24 (.bin .eql .none (.t 23) (.i 32))])
  (.cond (.t 24)
  (.region false [
    .m 25 0,
    .o 26 (.call (.f 70) [(.t 25)]),
    .o 27 (.build [(.int .i64 0), (.int .i64 0)] [(0, 1, (.i 13)), (1, 1, (.t 26))]),
    .o 28 (.mkIface 0 (.t 27)),
    .n (.panic (.t 28))])
  .skip))
  (.seq (.region false [
    .m 29 0,
    .o 30 (.call (.f 83) [(.t 29)])])
  (.seq (.region false [
    .m 31 0,
    .o 32 (.nilCheck (.t 31)),
    .o 33 (.fieldAddr 2 (.t 32)),
    .o 34 (.load false 1 (.t 33)),
    .o 35 (.bin .add .none (.t 34) (.i 1)),
    .o 36 (.nilCheck (.t 31)),
    .o 37 (.fieldAddr 2 (.t 36)),
    .n (.store 1 (.t 37) (.t 35))])
  (.seq (.region false [
    .m 38 0,
    .o 39 (.call (.f 49) [(.t 38)]),
    .m 3 39])
  (.seq (.region false [
    .m 40 0,
    .m 41 0,
    .o 42 (.call (.f 68) [(.t 41), (.i 8)]),
    .o 43 (.call (.f 50) [(.t 40), (.t 42)])])
  (.seq (.region false [
    .m 44 0,
    .o 45 (.nilCheck (.t 44)),
    .o 46 (.fieldAddr 2 (.t 45)),
    .o 47 (.load false 1 (.t 46)),
    .o 48 (.bin .sub .none (.t 47) (.i 1)),
    .o 49 (.nilCheck (.t 44)),
    .o 50 (.fieldAddr 2 (.t 49)),
    .n (.store 1 (.t 50) (.t 48))])
  (.seq (.region false [
    .m 51 3,
    .m 2 51])
  (.ret q84)))))))))))⟩
abbrev q85 : List Bool := [Z,Z,Z,Z,Z,Z,Z,Z,Z,Z,Z,Z,Z,Z,Z,Z,X,Z,Z,Z,Z,Z,Z,Z,Z,Z]
def r85 (t16 : AV) : Fr := ⟨[J,J,J,J,J,J,J,J,J,J,J,J,J,J,J,J,t16,J,J,J,J,J,J,J,J,J], [], .call⟩
/-- drachm/drachmref05.atom -/
def f85 : SFunc := ⟨.closed, 26, [(.cell 16 true 12)],
  (.seq (.region false [
    .o 8 (.box 5 (.t 0)),
    .o 16 (.alloc [(.str []), (.str []), (.str []), (.str []), (.str []), (.bool false), (.int .i64 0), (.int .i64 0), (.int .i64 0), (.int .i64 0), (.int .i64 0), .nils])])
  (.seq (.region false [
    .o 17 (.load true 5 (.t 8)),
    .m 18 1,
    .m 19 2,
    .m 20 3,
    .m 21 4,
    .m 22 5,
    .m 23 6,
    .m 24 7,
    .o 25 (.build [(.str []), (.str []), (.str []), (.str []), (.str []), (.bool false), (.int .i64 0), (.int .i64 0), (.int .i64 0), (.int .i64 0), (.int .i64 0), .nils] [(0, 5, (.t 17)), (5, 1, (.t 18)), (6, 1, (.t 19)), (7, 1, (.t 20)), (8, 1, (.t 21)), (9, 1, (.t 22)), (10, 1, (.t 23)), (11, 1, (.t 24))]),
    .n (.store 12 (.t 16) (.t 25))])
  (.ret q85)))⟩
abbrev q86_0 : List Bool := [Z,Z,Z,Z,Z,Z,Z,Z,Z,Z,Z,Z,Z,Z,Z,Z,Z,Z,Z,Z,Z,Z,Z,Z,Z,Z,Z,Z,Z,Z,Z]
abbrev q86 : List Bool := [Z,Z,Z,Z,Z,Z,X,Z,Z,Z,Z,Z,Z,Z,Z,Z,Z,Z,Z,Z,Z,Z,Z,Z,Z,Z,Z,Z,Z,Z,Z]
def r86 (t6 : AV) : Fr := ⟨[J,J,J,J,J,J,t6,J,J,J,J,J,J,J,J,J,J,J,J,J,J,J,J,J,J,J,J,J,J,J,J], [], .call⟩
abbrev q86_1 : List Bool := [Z,X,X,X,Z,Z,Z,X,Z,Z,Z,Z,Z,Z,Z,Z,Z,Z,Z,Z,Z,Z,Z,Z,Z,Z,Z,Z,Z,Z,Z]
def x86_1 (t1 t2 t3 t7 : AV) : Fr := ⟨[J,t1,t2,t3,J,J,J,t7,J,J,J,J,J,J,J,J,J,J,J,J,J,J,J,J,J,J,J,J,J,J,J], [], .call⟩
abbrev k86_0 : List Bool := [Z,X,X,X,Z,Z,Z,X,Z,Z,Z,Z,Z,Z,Z,Z,Z,Z,Z,Z,Z,Z,Z,Z,Z,Z,Z,Z,Z,Z,Z]
def l86_0 : SCode := (.seq (.seq (.region false [
    .m 8 7,
    .o 9 (.fieldAddr 0 (.t 3)),
    .o 10 (.load false 1 (.t 9)),
    .o 11 (.len .slc (.t 10)),
    .o 12 (.bin .lss .none (.t 8) (.t 11))])
  (.cond (.t 12)
  .skip
  (.exit 0 q86_0)))
  (.seq (.block 1 q86_1
  (.seq (.region false [
    .m 15 2,
    .o 16 (.bin .neq .none (.t 15) (.s [])),
    .m 17 16,
    .g 18 17 true (.fieldAddr 0 (.t 3)),
    .g 19 17 true (.load false 1 (.t 18)),
    .gm 20 17 true 7,
    .gm 21 17 true 1,
    .g 22 17 true (.bin .sub .none (.t 21) (.i 1)),
    .g 23 17 true (.indexAddrVs 12 (.t 19) (.t 20)),
    .g 24 17 true (.fieldAddr 0 (.t 23)),
    .g 25 17 true (.indexAddrArr 5 1 (.t 24) (.t 22)),
    .g 26 17 true (.load false 1 (.t 25)),
    .gm 27 17 true 2,
    .g 28 17 true (.bin .eql .none (.t 26) (.t 27)),
    .o 29 (.pick (.t 17) (.t 28) (.b false))])
  (.cond (.t 29)
  (.seq (.region false [
    .m 30 7,
    .m 6 30])
  (.ret q86))
  .skip)))
  (.region false [
    .m 13 7,
    .o 14 (.bin .add .none (.t 13) (.i 1)),
    .m 7 14])))
def s86_0 (t1 t2 t3 t7 : AV) : Fr := ⟨[J,t1,t2,t3,J,J,J,t7,J,J,J,J,J,J,J,J,J,J,J,J,J,J,J,J,J,J,J,J,J,J,J], [], .call⟩
def x86_0 : Fr := ⟨[J,J,J,J,J,J,J,J,J,J,J,J,J,J,J,J,J,J,J,J,J,J,J,J,J,J,J,J,J,J,J], [], .call⟩
/-- drachm/drachmref10.atom -/
def f86 : SFunc := ⟨.closed, 31, [(.tmp 6)],
  (.seq (.region false [
    .o 3 (.box 2 (.t 0)),
    .o 6 (.mov (.i 0))])
  (.seq (.seq (.region false [
    .o 7 (.mov (.i 0))])
  (.block 0 q86_0
  (.loop k86_0 l86_0)))
  (.seq (.region false [
    .o 6 (.mov (.i (-1)))])
  (.ret q86))))⟩
end Go.Pv
