/- Part 4 of the proof: what functions of the program come to. Conditions: none; definitions and theorems that the statement's proof uses. -/
import Derived.Test.YtleaeoncofgkjaaDoorPart3
import Derived.Test.YtleaeoncofgkjaaDoorPart2
/- Functions of the program in the evaluator's code, by program. Conditions: none; definitions. -/
namespace Go.Pv
abbrev q87 : List Bool := [Z,Z,Z,Z,X,Z,Z,Z,Z,Z,Z,Z,Z,Z,Z,Z,Z,Z,Z,Z,Z,Z]
def r87 (t4 : AV) : Fr := ⟨[J,J,J,J,t4,J,J,J,J,J,J,J,J,J,J,J,J,J,J,J,J,J], [], .call⟩
/-- drachm/drachmref10.begins -/
def f87 : SFunc := ⟨.closed, 22, [(.tmp 4)],
  (.seq (.region false [
    .o 4 (.mov (.b false))])
  (.seq (.region false [
    .m 5 1,
    .o 6 (.bin .neq .none (.t 5) (.s [])),
    .m 7 6,
    .gm 8 7 true 0,
    .g 9 7 true (.len .str (.t 8)),
    .gm 10 7 true 1,
    .g 11 7 true (.len .str (.t 10)),
    .g 12 7 true (.bin .gtr .none (.t 9) (.t 11)),
    .o 13 (.pick (.t 7) (.t 12) (.b false)),
    .m 14 13,
    .gm 15 14 true 0,
    .gm 16 14 true 1,
    .g 17 14 true (.len .str (.t 16)),
    .g 18 14 true (.sliceStr (.t 15) none (some (.t 17))),
    .gm 19 14 true 1,
    .g 20 14 true (.bin .eql .none (.t 18) (.t 19)),
    .o 21 (.pick (.t 14) (.t 20) (.b false)),
    .m 4 21])
  (.ret q87)))⟩
abbrev q88 : List Bool := [Z,Z,Z,Z,Z,Z,X,X,Z,Z,Z,Z,Z,Z,Z,Z,Z,Z,Z,Z,Z,Z,Z,Z,Z,Z,Z,Z,Z,Z,Z,Z,Z,Z,Z,Z,Z,Z,Z,Z,Z,Z,Z,Z,Z,Z,Z,Z,Z,Z,Z,Z,Z,Z,Z,Z,Z,Z,Z,Z,Z,Z,Z,Z,Z,Z,Z,Z,Z,Z,Z,Z,Z,Z,Z,Z,Z,Z,Z,Z,Z,Z,Z,Z,Z,Z,Z,Z,Z,Z,Z,Z,Z,Z,Z,Z,Z,Z,Z,Z,Z,Z,Z,Z,Z,Z,Z,Z,Z,Z,Z,Z,Z,Z,Z,Z,Z,Z,Z,Z,Z,Z,Z,Z,Z,Z,Z,Z,Z,Z,Z,Z,Z,Z,Z,Z,Z,Z,Z,Z,Z,Z,Z,Z,Z,Z,Z,Z,Z,Z,Z,Z,Z,Z,Z,Z,Z,Z,Z,Z,Z,Z,Z,Z,Z,Z,Z,Z,Z,Z,Z,Z]
def r88 (t6 t7 : AV) : Fr := ⟨[J,J,J,J,J,J,t6,t7,J,J,J,J,J,J,J,J,J,J,J,J,J,J,J,J,J,J,J,J,J,J,J,J,J,J,J,J,J,J,J,J,J,J,J,J,J,J,J,J,J,J,J,J,J,J,J,J,J,J,J,J,J,J,J,J,J,J,J,J,J,J,J,J,J,J,J,J,J,J,J,J,J,J,J,J,J,J,J,J,J,J,J,J,J,J,J,J,J,J,J,J,J,J,J,J,J,J,J,J,J,J,J,J,J,J,J,J,J,J,J,J,J,J,J,J,J,J,J,J,J,J,J,J,J,J,J,J,J,J,J,J,J,J,J,J,J,J,J,J,J,J,J,J,J,J,J,J,J,J,J,J,J,J,J,J,J,J,J,J,J,J,J,J], [], .call⟩
abbrev q88_1 : List Bool := [X,X,X,Z,Z,Z,Z,Z,X,X,Z,Z,Z,Z,Z,Z,Z,Z,Z,Z,Z,Z,Z,Z,Z,Z,Z,Z,Z,Z,Z,Z,Z,Z,Z,Z,Z,Z,Z,Z,Z,Z,Z,Z,Z,Z,Z,Z,Z,Z,Z,Z,Z,Z,Z,Z,Z,Z,Z,Z,Z,Z,Z,Z,Z,Z,Z,Z,Z,Z,Z,Z,Z,Z,Z,Z,Z,Z,Z,Z,Z,Z,Z,Z,Z,Z,Z,Z,Z,Z,Z,Z,Z,Z,Z,Z,Z,Z,Z,Z,Z,Z,Z,Z,Z,Z,Z,Z,Z,Z,Z,Z,Z,Z,Z,Z,Z,Z,Z,Z,Z,Z,Z,Z,Z,Z,Z,Z,Z,Z,Z,Z,Z,Z,Z,Z,Z,Z,Z,Z,Z,Z,Z,Z,Z,Z,Z,Z,Z,Z,Z,Z,Z,Z,Z,Z,Z,Z,Z,Z,Z,Z,Z,Z,Z,Z,Z,Z,Z,Z,Z,Z]
def x88_1 (t0 t1 t2 t8 t9 : AV) : Fr := ⟨[t0,t1,t2,J,J,J,J,J,t8,t9,J,J,J,J,J,J,J,J,J,J,J,J,J,J,J,J,J,J,J,J,J,J,J,J,J,J,J,J,J,J,J,J,J,J,J,J,J,J,J,J,J,J,J,J,J,J,J,J,J,J,J,J,J,J,J,J,J,J,J,J,J,J,J,J,J,J,J,J,J,J,J,J,J,J,J,J,J,J,J,J,J,J,J,J,J,J,J,J,J,J,J,J,J,J,J,J,J,J,J,J,J,J,J,J,J,J,J,J,J,J,J,J,J,J,J,J,J,J,J,J,J,J,J,J,J,J,J,J,J,J,J,J,J,J,J,J,J,J,J,J,J,J,J,J,J,J,J,J,J,J,J,J,J,J,J,J,J,J,J,J,J,J], [], .call⟩
abbrev q88_0 : List Bool := [X,X,X,Z,Z,Z,Z,Z,X,X,Z,Z,Z,Z,Z,Z,Z,Z,Z,Z,Z,Z,Z,Z,Z,Z,Z,Z,Z,Z,Z,Z,Z,Z,Z,Z,Z,Z,Z,Z,Z,Z,Z,Z,Z,Z,Z,Z,Z,Z,Z,Z,Z,Z,Z,Z,Z,Z,Z,Z,Z,Z,Z,Z,Z,Z,Z,Z,Z,Z,Z,Z,Z,Z,Z,Z,Z,Z,Z,Z,Z,Z,Z,Z,Z,Z,Z,Z,Z,Z,Z,Z,Z,Z,Z,Z,Z,Z,Z,Z,Z,Z,Z,Z,Z,Z,Z,Z,Z,Z,Z,Z,Z,Z,Z,Z,Z,Z,Z,Z,Z,Z,Z,Z,Z,Z,Z,Z,Z,Z,Z,Z,Z,Z,Z,Z,Z,Z,Z,Z,Z,Z,Z,Z,Z,Z,Z,Z,Z,Z,Z,Z,Z,Z,Z,Z,Z,Z,Z,Z,Z,Z,Z,Z,Z,Z,Z,Z,Z,Z,Z,Z]
def x88_0 (t0 t1 t2 t8 t9 : AV) : Fr := ⟨[t0,t1,t2,J,J,J,J,J,t8,t9,J,J,J,J,J,J,J,J,J,J,J,J,J,J,J,J,J,J,J,J,J,J,J,J,J,J,J,J,J,J,J,J,J,J,J,J,J,J,J,J,J,J,J,J,J,J,J,J,J,J,J,J,J,J,J,J,J,J,J,J,J,J,J,J,J,J,J,J,J,J,J,J,J,J,J,J,J,J,J,J,J,J,J,J,J,J,J,J,J,J,J,J,J,J,J,J,J,J,J,J,J,J,J,J,J,J,J,J,J,J,J,J,J,J,J,J,J,J,J,J,J,J,J,J,J,J,J,J,J,J,J,J,J,J,J,J,J,J,J,J,J,J,J,J,J,J,J,J,J,J,J,J,J,J,J,J,J,J,J,J,J,J], [], .call⟩
abbrev q88_2 : List Bool := [X,X,X,Z,Z,Z,Z,Z,X,X,X,Z,Z,Z,Z,Z,Z,Z,Z,Z,Z,Z,Z,Z,Z,Z,Z,Z,Z,Z,Z,Z,Z,Z,Z,Z,Z,Z,Z,Z,Z,Z,Z,Z,Z,Z,Z,Z,Z,Z,Z,Z,Z,Z,Z,Z,Z,Z,Z,Z,Z,Z,Z,Z,Z,Z,Z,Z,Z,Z,Z,Z,Z,Z,Z,Z,Z,Z,Z,Z,Z,Z,Z,Z,Z,Z,Z,Z,Z,Z,Z,Z,Z,Z,Z,Z,Z,Z,Z,Z,Z,Z,Z,Z,Z,Z,Z,Z,Z,Z,Z,Z,Z,Z,Z,Z,Z,Z,Z,Z,Z,Z,Z,Z,Z,Z,Z,Z,Z,Z,Z,Z,Z,Z,Z,Z,Z,Z,Z,Z,Z,Z,Z,Z,Z,Z,Z,Z,Z,Z,Z,Z,Z,Z,Z,Z,Z,Z,Z,Z,Z,Z,Z,Z,Z,Z,Z,Z,Z,Z,Z,Z]
def x88_2 (t0 t1 t2 t8 t9 t10 : AV) : Fr := ⟨[t0,t1,t2,J,J,J,J,J,t8,t9,t10,J,J,J,J,J,J,J,J,J,J,J,J,J,J,J,J,J,J,J,J,J,J,J,J,J,J,J,J,J,J,J,J,J,J,J,J,J,J,J,J,J,J,J,J,J,J,J,J,J,J,J,J,J,J,J,J,J,J,J,J,J,J,J,J,J,J,J,J,J,J,J,J,J,J,J,J,J,J,J,J,J,J,J,J,J,J,J,J,J,J,J,J,J,J,J,J,J,J,J,J,J,J,J,J,J,J,J,J,J,J,J,J,J,J,J,J,J,J,J,J,J,J,J,J,J,J,J,J,J,J,J,J,J,J,J,J,J,J,J,J,J,J,J,J,J,J,J,J,J,J,J,J,J,J,J,J,J,J,J,J,J], [], .call⟩
abbrev q88_3 : List Bool := [Z,Z,Z,Z,Z,Z,Z,Z,Z,X,Z,Z,X,X,Z,Z,Z,Z,Z,Z,Z,Z,Z,Z,Z,Z,Z,Z,Z,Z,Z,Z,Z,Z,Z,Z,Z,Z,Z,Z,Z,Z,Z,Z,Z,Z,Z,Z,Z,Z,Z,Z,Z,Z,Z,Z,Z,Z,Z,Z,Z,Z,Z,Z,Z,Z,Z,Z,Z,Z,Z,Z,Z,Z,Z,Z,Z,Z,Z,Z,Z,Z,Z,Z,Z,Z,Z,Z,Z,Z,Z,Z,Z,Z,Z,Z,Z,Z,Z,Z,Z,Z,Z,Z,Z,Z,Z,Z,Z,Z,Z,Z,Z,Z,Z,Z,Z,Z,Z,Z,Z,Z,Z,Z,Z,Z,Z,Z,Z,Z,Z,Z,Z,Z,Z,Z,Z,Z,Z,Z,Z,Z,Z,Z,Z,Z,Z,Z,Z,Z,Z,Z,Z,Z,Z,Z,Z,Z,Z,Z,Z,Z,Z,Z,Z,Z,Z,Z,Z,Z,Z,Z]
abbrev q88_4 : List Bool := [Z,X,Z,Z,Z,Z,Z,Z,X,X,X,X,X,X,Z,Z,Z,Z,Z,Z,Z,Z,Z,Z,Z,Z,Z,Z,Z,Z,Z,Z,Z,Z,Z,Z,Z,Z,Z,Z,Z,Z,Z,Z,Z,Z,Z,Z,Z,Z,Z,Z,Z,Z,Z,Z,Z,Z,Z,Z,Z,Z,Z,Z,Z,Z,Z,Z,Z,Z,Z,Z,Z,Z,Z,Z,Z,Z,Z,Z,Z,Z,Z,Z,Z,Z,Z,Z,Z,Z,Z,Z,Z,Z,Z,Z,Z,Z,Z,X,X,X,Z,Z,Z,Z,Z,Z,Z,Z,Z,Z,Z,Z,Z,Z,Z,Z,Z,Z,Z,Z,Z,Z,Z,Z,Z,Z,Z,Z,Z,Z,Z,Z,Z,Z,Z,Z,Z,Z,Z,Z,Z,Z,Z,Z,Z,Z,Z,Z,Z,Z,Z,Z,Z,Z,Z,Z,Z,Z,Z,Z,Z,Z,Z,Z,Z,Z,Z,Z,Z,Z]
abbrev q88_5 : List Bool := [Z,X,Z,Z,Z,Z,Z,Z,X,X,X,X,X,X,Z,Z,X,Z,Z,Z,Z,Z,Z,Z,Z,Z,Z,Z,Z,Z,Z,Z,Z,Z,Z,Z,Z,Z,Z,Z,Z,Z,Z,Z,Z,Z,Z,Z,Z,Z,Z,Z,Z,Z,Z,Z,Z,Z,Z,Z,Z,Z,Z,Z,Z,Z,Z,Z,Z,Z,Z,Z,Z,Z,Z,Z,Z,Z,Z,Z,Z,Z,Z,Z,Z,Z,Z,Z,Z,Z,Z,Z,Z,Z,Z,Z,Z,Z,Z,X,X,X,Z,Z,Z,Z,Z,Z,Z,Z,Z,Z,Z,Z,Z,Z,Z,Z,Z,Z,Z,Z,Z,Z,Z,Z,Z,Z,Z,Z,Z,Z,Z,Z,Z,Z,Z,Z,Z,Z,Z,Z,Z,Z,Z,Z,Z,Z,Z,Z,Z,Z,Z,Z,Z,Z,Z,Z,Z,Z,Z,Z,Z,Z,Z,Z,Z,Z,Z,Z,Z,Z]
def x88_5 (t1 t8 t9 t10 t11 t12 t13 t16 t99 t100 t101 : AV) : Fr := ⟨[J,t1,J,J,J,J,J,J,t8,t9,t10,t11,t12,t13,J,J,t16,J,J,J,J,J,J,J,J,J,J,J,J,J,J,J,J,J,J,J,J,J,J,J,J,J,J,J,J,J,J,J,J,J,J,J,J,J,J,J,J,J,J,J,J,J,J,J,J,J,J,J,J,J,J,J,J,J,J,J,J,J,J,J,J,J,J,J,J,J,J,J,J,J,J,J,J,J,J,J,J,J,J,t99,t100,t101,J,J,J,J,J,J,J,J,J,J,J,J,J,J,J,J,J,J,J,J,J,J,J,J,J,J,J,J,J,J,J,J,J,J,J,J,J,J,J,J,J,J,J,J,J,J,J,J,J,J,J,J,J,J,J,J,J,J,J,J,J,J,J,J,J,J,J,J,J,J], [], .call⟩
def x88_4 (t1 t8 t9 t10 t11 t12 t13 t99 t100 t101 : AV) : Fr := ⟨[J,t1,J,J,J,J,J,J,t8,t9,t10,t11,t12,t13,J,J,J,J,J,J,J,J,J,J,J,J,J,J,J,J,J,J,J,J,J,J,J,J,J,J,J,J,J,J,J,J,J,J,J,J,J,J,J,J,J,J,J,J,J,J,J,J,J,J,J,J,J,J,J,J,J,J,J,J,J,J,J,J,J,J,J,J,J,J,J,J,J,J,J,J,J,J,J,J,J,J,J,J,J,t99,t100,t101,J,J,J,J,J,J,J,J,J,J,J,J,J,J,J,J,J,J,J,J,J,J,J,J,J,J,J,J,J,J,J,J,J,J,J,J,J,J,J,J,J,J,J,J,J,J,J,J,J,J,J,J,J,J,J,J,J,J,J,J,J,J,J,J,J,J,J,J,J,J], [], .call⟩
abbrev k88_0 : List Bool := [Z,X,Z,Z,Z,Z,Z,Z,X,X,X,X,X,X,Z,Z,Z,Z,Z,Z,Z,Z,Z,Z,Z,Z,Z,Z,Z,Z,Z,Z,Z,Z,Z,Z,Z,Z,Z,Z,Z,Z,Z,Z,Z,Z,Z,Z,Z,Z,Z,Z,Z,Z,Z,Z,Z,Z,Z,Z,Z,Z,Z,Z,Z,Z,Z,Z,Z,Z,Z,Z,Z,Z,Z,Z,Z,Z,Z,Z,Z,Z,Z,Z,Z,Z,Z,Z,Z,Z,Z,Z,Z,Z,Z,Z,Z,Z,Z,X,X,X,Z,Z,Z,Z,Z,Z,Z,Z,Z,Z,Z,Z,Z,Z,Z,Z,Z,Z,Z,Z,Z,Z,Z,Z,Z,Z,Z,Z,Z,Z,Z,Z,Z,Z,Z,Z,Z,Z,Z,Z,Z,Z,Z,Z,Z,Z,Z,Z,Z,Z,Z,Z,Z,Z,Z,Z,Z,Z,Z,Z,Z,Z,Z,Z,Z,Z,Z,Z,Z,Z]
def l88_0 : SCode := (.seq (.region false [
    .o 102 (.bin .lss .none (.t 101) (.t 100))])
  (.seq (.cond (.t 102)
  .skip
  (.exit 3 q88_3))
  (.seq (.block 4 q88_4
  (.seq (.region false [
    .o 103 (.indexAddrVs 1 (.t 99) (.t 101)),
    .o 104 (.load false 1 (.t 103)),
    .m 15 104])
  (.seq (.region false [
    .o 16 (.mov (.const (.int .u8 0)))])
  (.seq (.block 5 q88_5
  (.seq (.region false [
    .m 107 15,
    .o 108 (.bin .eql .none (.t 107) (.const (.int .u8 95))),
    .m 109 108,
    .gm 110 109 true 8,
    .o 111 (.pick (.t 109) (.t 110) (.b false)),
    .m 106 111])
  (.cond (.t 106)
  (.seq (.region false [
    .o 12 (.mov (.b true))])
  (.exit 4 q88_4))
  (.seq (.region false [
    .m 113 15,
    .o 114 (.bin .leq .none (.const (.int .u8 48)) (.t 113)),
    .m 115 114,
    .gm 116 115 true 15,
    .g 117 115 true (.bin .leq .none (.t 116) (.const (.int .u8 57))),
    .o 118 (.pick (.t 115) (.t 117) (.b false)),
    .m 112 118])
  (.cond (.t 112)
  (.region false [
    .m 119 15,
    .o 120 (.bin .sub .none (.t 119) (.const (.int .u8 48))),
    .m 16 120])
  (.seq (.region false [
    .m 122 15,
    .o 123 (.call (.f 96) [(.t 122)]),
    .o 124 (.bin .leq .none (.const (.int .u8 97)) (.t 123)),
    .m 125 124,
    .gm 126 125 true 15,
    .g 127 125 true (.call (.f 96) [(.t 126)]),
    .g 128 125 true (.bin .leq .none (.t 127) (.const (.int .u8 122))),
    .o 129 (.pick (.t 125) (.t 128) (.b false)),
    .m 121 129])
  (.cond (.t 121)
  (.region false [
    .m 130 15,
    .o 131 (.call (.f 96) [(.t 130)]),
    .o 132 (.bin .sub .none (.t 131) (.const (.int .u8 97))),
    .o 133 (.bin .add .none (.t 132) (.const (.int .u8 10))),
    .m 16 133])
  (.seq (.region false [
    .o 105 (.mkIface 1 (.i 2)),
    .o 6 (.mov (.const (.int .u64 0))),
    .m 7 105])
  (.ret q88)))))))))
  (.seq (.seq (.region false [
    .m 134 16,
    .m 135 1,
    .o 136 (.conv (.int .u8) (.t 135)),
    .o 137 (.bin .geq .none (.t 134) (.t 136))])
  (.cond (.t 137)
  (.seq (.region false [
    .o 138 (.mkIface 1 (.i 2)),
    .o 6 (.mov (.const (.int .u64 0))),
    .m 7 138])
  (.ret q88))
  .skip))
  (.seq (.seq (.region false [
    .m 139 13,
    .m 140 10,
    .o 141 (.bin .geq .none (.t 139) (.t 140))])
  (.cond (.t 141)
  (.seq (.region false [
    .m 142 11,
    .o 143 (.mkIface 1 (.i 1)),
    .m 6 142,
    .m 7 143])
  (.ret q88))
  .skip))
  (.seq (.region false [
    .m 144 13,
    .m 145 1,
    .o 146 (.conv (.int .u64) (.t 145)),
    .o 147 (.bin .mul .none (.t 144) (.t 146)),
    .m 13 147])
  (.seq (.region false [
    .m 148 13,
    .m 149 16,
    .o 150 (.conv (.int .u64) (.t 149)),
    .o 151 (.bin .add .none (.t 148) (.t 150)),
    .m 17 151])
  (.seq (.seq (.region false [
    .m 152 17,
    .m 153 13,
    .o 154 (.bin .lss .none (.t 152) (.t 153)),
    .m 155 154,
    .gm 156 155 false 17,
    .gm 157 155 false 11,
    .g 158 155 false (.bin .gtr .none (.t 156) (.t 157)),
    .o 159 (.pick (.t 155) (.b true) (.t 158))])
  (.cond (.t 159)
  (.seq (.region false [
    .m 160 11,
    .o 161 (.mkIface 1 (.i 1)),
    .m 6 160,
    .m 7 161])
  (.ret q88))
  .skip))
  (.region false [
    .m 162 17,
    .m 13 162]))))))))))
  (.region false [
    .o 163 (.bin .add .none (.t 101) (.i 1)),
    .m 101 163]))))
def s88_0 (t1 t8 t9 t10 t11 t12 t13 t99 t100 t101 : AV) : Fr := ⟨[J,t1,J,J,J,J,J,J,t8,t9,t10,t11,t12,t13,J,J,J,J,J,J,J,J,J,J,J,J,J,J,J,J,J,J,J,J,J,J,J,J,J,J,J,J,J,J,J,J,J,J,J,J,J,J,J,J,J,J,J,J,J,J,J,J,J,J,J,J,J,J,J,J,J,J,J,J,J,J,J,J,J,J,J,J,J,J,J,J,J,J,J,J,J,J,J,J,J,J,J,J,J,t99,t100,t101,J,J,J,J,J,J,J,J,J,J,J,J,J,J,J,J,J,J,J,J,J,J,J,J,J,J,J,J,J,J,J,J,J,J,J,J,J,J,J,J,J,J,J,J,J,J,J,J,J,J,J,J,J,J,J,J,J,J,J,J,J,J,J,J,J,J,J,J,J,J], [], .call⟩
def x88_3 (t9 t12 t13 : AV) : Fr := ⟨[J,J,J,J,J,J,J,J,J,t9,J,J,t12,t13,J,J,J,J,J,J,J,J,J,J,J,J,J,J,J,J,J,J,J,J,J,J,J,J,J,J,J,J,J,J,J,J,J,J,J,J,J,J,J,J,J,J,J,J,J,J,J,J,J,J,J,J,J,J,J,J,J,J,J,J,J,J,J,J,J,J,J,J,J,J,J,J,J,J,J,J,J,J,J,J,J,J,J,J,J,J,J,J,J,J,J,J,J,J,J,J,J,J,J,J,J,J,J,J,J,J,J,J,J,J,J,J,J,J,J,J,J,J,J,J,J,J,J,J,J,J,J,J,J,J,J,J,J,J,J,J,J,J,J,J,J,J,J,J,J,J,J,J,J,J,J,J,J,J,J,J,J,J], [], .call⟩
/-- internal/strconv.ParseUint -/
def f88 : SFunc := ⟨.closed, 172, [(.tmp 6), (.tmp 7)],
  (.seq (.region false [
    .o 6 (.mov (.const (.int .u64 0))),
    .o 7 (.mov (.const .niliface))])
  (.seq (.seq (.region false [
    .m 18 0,
    .o 19 (.bin .eql .none (.t 18) (.s []))])
  (.cond (.t 19)
  (.seq (.region false [
    .o 20 (.mkIface 1 (.i 2)),
    .o 6 (.mov (.const (.int .u64 0))),
    .m 7 20])
  (.ret q88))
  .skip))
  (.seq (.region false [
    .m 21 1,
    .o 22 (.bin .eql .none (.t 21) (.i 0)),
    .m 8 22])
  (.seq (.region false [
    .m 23 0,
    .m 9 23])
  (.seq (.block 0 q88_0
  (.seq (.region false [
    .m 26 1,
    .o 27 (.bin .leq .none (.i 2) (.t 26)),
    .m 28 27,
    .gm 29 28 true 1,
    .g 30 28 true (.bin .leq .none (.t 29) (.i 36)),
    .o 31 (.pick (.t 28) (.t 30) (.b false)),
    .m 25 31])
  (.cond (.t 25)
  .skip
  (.seq (.region false [
    .m 33 1,
    .o 34 (.bin .eql .none (.t 33) (.i 0)),
    .m 32 34])
  (.cond (.t 32)
  (.seq (.region false [
    .o 1 (.mov (.i 10))])
  (.seq (.region false [
    .m 35 0,
    .o 36 (.indexStr (.t 35) (.i 0)),
    .o 37 (.bin .eql .none (.t 36) (.const (.int .u8 48)))])
  (.cond (.t 37)
  (.block 1 q88_1
  (.seq (.region false [
    .m 41 0,
    .o 42 (.len .str (.t 41)),
    .o 43 (.bin .geq .none (.t 42) (.i 3)),
    .m 44 43,
    .gm 45 44 true 0,
    .g 46 44 true (.indexStr (.t 45) (.i 1)),
    .g 47 44 true (.call (.f 96) [(.t 46)]),
    .g 48 44 true (.bin .eql .none (.t 47) (.const (.int .u8 98))),
    .o 49 (.pick (.t 44) (.t 48) (.b false)),
    .m 40 49])
  (.cond (.t 40)
  (.seq (.region false [
    .o 1 (.mov (.i 2))])
  (.region false [
    .m 50 0,
    .o 51 (.sliceStr (.t 50) (some (.i 2)) none),
    .m 0 51]))
  (.seq (.region false [
    .m 53 0,
    .o 54 (.len .str (.t 53)),
    .o 55 (.bin .geq .none (.t 54) (.i 3)),
    .m 56 55,
    .gm 57 56 true 0,
    .g 58 56 true (.indexStr (.t 57) (.i 1)),
    .g 59 56 true (.call (.f 96) [(.t 58)]),
    .g 60 56 true (.bin .eql .none (.t 59) (.const (.int .u8 111))),
    .o 61 (.pick (.t 56) (.t 60) (.b false)),
    .m 52 61])
  (.cond (.t 52)
  (.seq (.region false [
    .o 1 (.mov (.i 8))])
  (.region false [
    .m 62 0,
    .o 63 (.sliceStr (.t 62) (some (.i 2)) none),
    .m 0 63]))
  (.seq (.region false [
    .m 65 0,
    .o 66 (.len .str (.t 65)),
    .o 67 (.bin .geq .none (.t 66) (.i 3)),
    .m 68 67,
    .gm 69 68 true 0,
    .g 70 68 true (.indexStr (.t 69) (.i 1)),
    .g 71 68 true (.call (.f 96) [(.t 70)]),
    .g 72 68 true (.bin .eql .none (.t 71) (.const (.int .u8 120))),
    .o 73 (.pick (.t 68) (.t 72) (.b false)),
    .m 64 73])
  (.cond (.t 64)
  (.seq (.region false [
    .o 1 (.mov (.i 16))])
  (.region false [
    .m 74 0,
    .o 75 (.sliceStr (.t 74) (some (.i 2)) none),
    .m 0 75]))
  (.seq (.region false [
    .o 1 (.mov (.i 8))])
  (.region false [
    .m 38 0,
    .o 39 (.sliceStr (.t 38) (some (.i 1)) none),
    .m 0 39])))))))))
  .skip)))
  (.seq (.region false [
    .o 24 (.mkIface 1 (.i 3)),
    .o 6 (.mov (.const (.int .u64 0))),
    .m 7 24])
  (.ret q88)))))))
  (.seq (.seq (.region false [
    .m 76 2,
    .o 77 (.bin .eql .none (.t 76) (.i 0))])
  (.cond (.t 77)
  (.region false [
    .o 2 (.mov (.i 64))])
  (.seq (.region false [
    .m 78 2,
    .o 79 (.bin .lss .none (.t 78) (.i 0)),
    .m 80 79,
    .gm 81 80 false 2,
    .g 82 80 false (.bin .gtr .none (.t 81) (.i 64)),
    .o 83 (.pick (.t 80) (.b true) (.t 82))])
  (.cond (.t 83)
  (.seq (.region false [
    .o 84 (.mkIface 1 (.i 4)),
    .o 6 (.mov (.const (.int .u64 0))),
    .m 7 84])
  (.ret q88))
  .skip))))
  (.seq (.region false [
    .o 10 (.mov (.const (.int .u64 0)))])
  (.seq (.seq (.region false [
    .m 85 1])
  (.block 2 q88_2
  (.seq (.region false [
    .o 91 (.bin .eql .none (.t 85) (.i 10)),
    .m 90 91])
  (.cond (.t 90)
  (.region false [
    .o 10 (.mov (.const (.int .u64 1844674407370955162)))])
  (.seq (.region false [
    .o 93 (.bin .eql .none (.t 85) (.i 16)),
    .m 92 93])
  (.cond (.t 92)
  (.region false [
    .o 10 (.mov (.const (.int .u64 1152921504606846976)))])
  (.region false [
    .m 86 1,
    .o 87 (.conv (.int .u64) (.t 86)),
    .o 88 (.bin .quo .none (.const (.int .u64 18446744073709551615)) (.t 87)),
    .o 89 (.bin .add .none (.t 88) (.const (.int .u64 1))),
    .m 10 89])))))))
  (.seq (.region false [
    .m 94 2,
    .o 95 (.conv (.int .u64) (.t 94)),
    .o 96 (.bin .shl .none (.const (.int .u64 1)) (.t 95)),
    .o 97 (.bin .sub .none (.t 96) (.const (.int .u64 1))),
    .m 11 97])
  (.seq (.region false [
    .o 12 (.mov (.b false))])
  (.seq (.region false [
    .o 13 (.mov (.const (.int .u64 0)))])
  (.seq (.seq (.region false [
    .m 98 0,
    .o 99 (.conv .toBytes (.t 98)),
    .o 100 (.len .slc (.t 99)),
    .o 101 (.mov (.i 0))])
  (.block 3 q88_3
  (.loop k88_0 l88_0)))
  (.seq (.seq (.region false [
    .m 164 12,
    .m 165 164,
    .gm 166 165 true 9,
    .g 167 165 true (.call (.f 97) [(.t 166)]),
    .g 168 165 true (.un .not (.t 167)),
    .o 169 (.pick (.t 165) (.t 168) (.b false))])
  (.cond (.t 169)
  (.seq (.region false [
    .o 170 (.mkIface 1 (.i 2)),
    .o 6 (.mov (.const (.int .u64 0))),
    .m 7 170])
  (.ret q88))
  .skip))
  (.seq (.region false [
    .m 171 13,
    .m 6 171,
    .o 7 (.mov (.const .niliface))])
  (.ret q88)))))))))))))))⟩
abbrev q89 : List Bool := [Z,Z,Z,Z,X,Z,Z,Z,Z,Z,Z]
def r89 (t4 : AV) : Fr := ⟨[J,J,J,J,t4,J,J,J,J,J,J], [], .call⟩
/-- strconv.syntaxError -/
def f89 : SFunc := ⟨.open_, 11, [(.tmp 4)],
  (.seq (.region false [
    .o 4 (.mov (.const .nilp))])
  (.seq (.region true [
    .m 5 0,
    .m 6 1,
    .o 7 (.call (.f 98) [(.t 6)]),
    .o 8 (.load false 1 (.glob 2)),
    .o 9 (.build [(.str []), (.str []), .niliface] [(0, 1, (.t 5)), (1, 1, (.t 7)), (2, 1, (.t 8))]),
    .o 10 (.box 3 (.t 9)),
    .m 4 10])
  (.ret q89)))⟩
abbrev q90 : List Bool := [Z,Z,Z,Z,X,Z,Z,Z,Z,Z,Z]
def r90 (t4 : AV) : Fr := ⟨[J,J,J,J,t4,J,J,J,J,J,J], [], .call⟩
/-- strconv.rangeError -/
def f90 : SFunc := ⟨.open_, 11, [(.tmp 4)],
  (.seq (.region false [
    .o 4 (.mov (.const .nilp))])
  (.seq (.region true [
    .m 5 0,
    .m 6 1,
    .o 7 (.call (.f 98) [(.t 6)]),
    .o 8 (.load false 1 (.glob 3)),
    .o 9 (.build [(.str []), (.str []), .niliface] [(0, 1, (.t 5)), (1, 1, (.t 7)), (2, 1, (.t 8))]),
    .o 10 (.box 3 (.t 9)),
    .m 4 10])
  (.ret q90)))⟩
abbrev q91 : List Bool := [Z,Z,Z,Z,Z,Z,X,Z,Z,Z,Z,Z,Z,Z,Z,Z]
def r91 (t6 : AV) : Fr := ⟨[J,J,J,J,J,J,t6,J,J,J,J,J,J,J,J,J], [], .call⟩
/-- strconv.baseError -/
def f91 : SFunc := ⟨.open_, 16, [(.tmp 6)],
  (.seq (.region false [
    .o 6 (.mov (.const .nilp))])
  (.seq (.region false [
    .m 7 0,
    .m 8 1,
    .o 9 (.call (.f 98) [(.t 8)]),
    .m 10 2,
    .o 11 (.call (.f 100) [(.t 10)]),
    .o 12 (.bin .add .none (.s [105, 110, 118, 97, 108, 105, 100, 32, 98, 97, 115, 101, 32]) (.t 11)),
    .o 13 (.call (.f 99) [(.t 12)]),
    .o 14 (.build [(.str []), (.str []), .niliface] [(0, 1, (.t 7)), (1, 1, (.t 9)), (2, 1, (.t 13))]),
    .o 15 (.box 3 (.t 14)),
    .m 6 15])
  (.ret q91)))⟩
abbrev q92 : List Bool := [Z,Z,Z,Z,Z,Z,X,Z,Z,Z,Z,Z,Z,Z,Z,Z]
def r92 (t6 : AV) : Fr := ⟨[J,J,J,J,J,J,t6,J,J,J,J,J,J,J,J,J], [], .call⟩
/-- strconv.bitSizeError -/
def f92 : SFunc := ⟨.open_, 16, [(.tmp 6)],
  (.seq (.region false [
    .o 6 (.mov (.const .nilp))])
  (.seq (.region false [
    .m 7 0,
    .m 8 1,
    .o 9 (.call (.f 98) [(.t 8)]),
    .m 10 2,
    .o 11 (.call (.f 100) [(.t 10)]),
    .o 12 (.bin .add .none (.s [105, 110, 118, 97, 108, 105, 100, 32, 98, 105, 116, 32, 115, 105, 122, 101, 32]) (.t 11)),
    .o 13 (.call (.f 99) [(.t 12)]),
    .o 14 (.build [(.str []), (.str []), .niliface] [(0, 1, (.t 7)), (1, 1, (.t 9)), (2, 1, (.t 13))]),
    .o 15 (.box 3 (.t 14)),
    .m 6 15])
  (.ret q92)))⟩
abbrev q94 : List Bool := [Z,Z,X,Z,Z,Z,Z,Z,Z,Z,Z,Z,Z,Z,Z,Z,Z,Z,Z,Z,Z,Z,Z,Z,Z,Z,Z,Z,Z,Z,Z,Z,Z,Z,Z,Z,Z,Z]
def r94 (t2 : AV) : Fr := ⟨[J,J,t2,J,J,J,J,J,J,J,J,J,J,J,J,J,J,J,J,J,J,J,J,J,J,J,J,J,J,J,J,J,J,J,J,J,J,J], [], .call⟩
/-- (*drachm/parse.parser).sym -/
def f94 : SFunc := ⟨.open_, 38, [(.tmp 2)],
  (.seq (.region false [
    .o 2 (.mov (.const .nils))])
  (.seq (.region false [
    .m 7 0,
    .o 8 (.call (.f 83) [(.t 7)]),
    .o 3 (.alloc [(.int .i64 0), (.int .i64 0), (.str []), (.int .i64 0)]),
    .n (.store 4 (.t 3) (.t 8))])
  (.seq (.region true [
    .m 10 0,
    .o 11 (.nilCheck (.t 10)),
    .o 12 (.fieldAddr 0 (.t 11)),
    .o 13 (.load false 1 (.t 12)),
    .o 14 (.fieldAddr 2 (.t 3)),
    .o 15 (.load false 1 (.t 14)),
    .o 16 (.call (.f 13) [(.t 13), (.t 15)]),
    .m 9 16,
    .o 17 (.extract 0 (.t 9)),
    .o 18 (.extract 1 (.t 9)),
    .o 19 (.extract 2 (.t 9)),
    .m 4 17,
    .m 5 18,
    .m 6 19])
  (.seq (.seq (.region false [
    .m 20 6,
    .o 21 (.un .not (.t 20)),
    .m 22 21,
    .gm 23 22 true 0,
    .g 24 22 true (.nilCheck (.t 23)),
    .g 25 22 true (.fieldAddr 10 (.t 24)),
    .g 26 22 true (.load false 1 (.t 25)),
    .g 27 22 true (.bin .eql .ptr (.t 26) (.const .nilp)),
    .o 28 (.pick (.t 22) (.t 27) (.b false))])
  (.cond (.t 28)
  (.region false [
    .m 29 0,
    .o 30 (.nilCheck (.t 29)),
    .o 31 (.fieldAddr 10 (.t 30)),
    .n (.store 1 (.t 31) (.t 3))])
  .skip))
  (.seq (.region false [
    .m 32 4,
    .m 33 5,
    .m 34 0,
    .o 35 (.call (.f 101) [(.t 34)]),
    .o 36 (.build [(.int .i64 0), (.int .i64 0), (.int .i64 0), (.int .i64 0), (.int .i64 0), (.str [])] [(0, 1, (.i 2)), (1, 1, (.t 32)), (2, 1, (.t 33)), (3, 1, (.t 35))]),
    .o 37 (.buildSlice 1 [(.int .i64 0), (.int .i64 0), (.int .i64 0), (.int .i64 0), (.int .i64 0), (.str [])] [(0, 6, (.t 36))]),
    .m 2 37])
  (.ret q94))))))⟩
abbrev q95 : List Bool := [Z,Z,Z,Z,Z,Z,X,Z,Z,Z,Z,Z,Z,Z,Z,Z,Z,Z,Z,Z,Z,Z,Z,Z,Z,Z,Z,Z,Z,Z,Z,Z,Z,Z,Z,Z]
def r95 (t6 : AV) : Fr := ⟨[J,J,J,J,J,J,t6,J,J,J,J,J,J,J,J,J,J,J,J,J,J,J,J,J,J,J,J,J,J,J,J,J,J,J,J,J], [], .call⟩
/-- (*drachm/parse.parser).number -/
def f95 : SFunc := ⟨.open_, 36, [(.tmp 6)],
  (.seq (.region false [
    .o 6 (.mov (.i 0))])
  (.seq (.region false [
    .m 7 0,
    .m 8 0,
    .o 9 (.call (.f 82) [(.t 8), (.i 2)]),
    .m 10 9,
    .gm 11 10 true 0,
    .g 12 10 true (.nilCheck (.t 11)),
    .g 13 10 true (.fieldAddr 9 (.t 12)),
    .g 14 10 true (.load false 1 (.t 13)),
    .g 15 10 true (.indexAddrVs 4 (.t 14) (.i 0)),
    .g 16 10 true (.fieldAddr 3 (.t 15)),
    .g 17 10 true (.load false 1 (.t 16)),
    .gm 18 10 true 1,
    .g 19 10 true (.bin .geq .none (.t 17) (.t 18)),
    .o 20 (.pick (.t 10) (.t 19) (.b false)),
    .m 21 20,
    .gm 22 21 true 0,
    .g 23 21 true (.nilCheck (.t 22)),
    .g 24 21 true (.fieldAddr 9 (.t 23)),
    .g 25 21 true (.load false 1 (.t 24)),
    .g 26 21 true (.indexAddrVs 4 (.t 25) (.i 0)),
    .g 27 21 true (.fieldAddr 3 (.t 26)),
    .g 28 21 true (.load false 1 (.t 27)),
    .gm 29 21 true 2,
    .g 30 21 true (.bin .leq .none (.t 28) (.t 29)),
    .o 31 (.pick (.t 21) (.t 30) (.b false)),
    .o 32 (.call (.f 50) [(.t 7), (.t 31)])])
  (.seq (.region false [
    .m 33 0,
    .o 34 (.call (.f 83) [(.t 33)]),
    .o 35 (.field false 3 1 (.t 34)),
    .m 6 35])
  (.ret q95))))⟩
abbrev q96 : List Bool := [Z,Z,X,Z,Z]
def r96 (t2 : AV) : Fr := ⟨[J,J,t2,J,J], [], .call⟩
/-- internal/strconv.lower -/
def f96 : SFunc := ⟨.closed, 5, [(.tmp 2)],
  (.seq (.region false [
    .o 2 (.mov (.const (.int .u8 0)))])
  (.seq (.region false [
    .m 3 0,
    .o 4 (.bin .or .none (.t 3) (.const (.int .u8 32))),
    .m 2 4])
  (.ret q96)))⟩
abbrev q97_0 : List Bool := [Z,Z,Z,X,Z,Z,Z,Z,Z,Z,Z,Z,Z,Z,Z,Z,Z,Z,Z,Z,Z,Z,Z,Z,Z,Z,Z,Z,Z,Z,Z,Z,Z,Z,Z,Z,Z,Z,Z,Z,Z,Z,Z,Z,Z,Z,Z,Z,Z,Z,Z,Z,Z,Z,Z,Z,Z,Z,Z,Z,Z,Z,Z,Z,Z,Z,Z,Z,Z,Z,Z,Z,Z,Z,Z,Z,Z,Z,Z,Z,Z,Z,Z,Z,Z,Z,Z,Z,Z,Z,Z,Z,Z,Z]
abbrev q97_1 : List Bool := [X,Z,Z,X,X,X,Z,Z,Z,Z,Z,Z,Z,Z,Z,Z,Z,Z,Z,Z,Z,Z,Z,Z,Z,Z,Z,Z,Z,Z,Z,Z,Z,Z,Z,Z,Z,Z,Z,Z,Z,Z,Z,Z,Z,Z,Z,Z,Z,Z,Z,Z,Z,Z,Z,Z,Z,Z,Z,Z,Z,Z,Z,Z,Z,Z,Z,Z,Z,Z,Z,Z,Z,Z,Z,Z,Z,Z,Z,Z,Z,Z,Z,Z,Z,Z,Z,Z,Z,Z,Z,Z,Z,Z]
abbrev q97 : List Bool := [Z,Z,X,Z,Z,Z,Z,Z,Z,Z,Z,Z,Z,Z,Z,Z,Z,Z,Z,Z,Z,Z,Z,Z,Z,Z,Z,Z,Z,Z,Z,Z,Z,Z,Z,Z,Z,Z,Z,Z,Z,Z,Z,Z,Z,Z,Z,Z,Z,Z,Z,Z,Z,Z,Z,Z,Z,Z,Z,Z,Z,Z,Z,Z,Z,Z,Z,Z,Z,Z,Z,Z,Z,Z,Z,Z,Z,Z,Z,Z,Z,Z,Z,Z,Z,Z,Z,Z,Z,Z,Z,Z,Z,Z]
def r97 (t2 : AV) : Fr := ⟨[J,J,t2,J,J,J,J,J,J,J,J,J,J,J,J,J,J,J,J,J,J,J,J,J,J,J,J,J,J,J,J,J,J,J,J,J,J,J,J,J,J,J,J,J,J,J,J,J,J,J,J,J,J,J,J,J,J,J,J,J,J,J,J,J,J,J,J,J,J,J,J,J,J,J,J,J,J,J,J,J,J,J,J,J,J,J,J,J,J,J,J,J,J,J], [], .call⟩
def x97_1 (t0 t3 t4 t5 : AV) : Fr := ⟨[t0,J,J,t3,t4,t5,J,J,J,J,J,J,J,J,J,J,J,J,J,J,J,J,J,J,J,J,J,J,J,J,J,J,J,J,J,J,J,J,J,J,J,J,J,J,J,J,J,J,J,J,J,J,J,J,J,J,J,J,J,J,J,J,J,J,J,J,J,J,J,J,J,J,J,J,J,J,J,J,J,J,J,J,J,J,J,J,J,J,J,J,J,J,J,J], [], .call⟩
abbrev k97_0 : List Bool := [X,Z,Z,X,X,X,Z,Z,Z,Z,Z,Z,Z,Z,Z,Z,Z,Z,Z,Z,Z,Z,Z,Z,Z,Z,Z,Z,Z,Z,Z,Z,Z,Z,Z,Z,Z,Z,Z,Z,Z,Z,Z,Z,Z,Z,Z,Z,Z,Z,Z,Z,Z,Z,Z,Z,Z,Z,Z,Z,Z,Z,Z,Z,Z,Z,Z,Z,Z,Z,Z,Z,Z,Z,Z,Z,Z,Z,Z,Z,Z,Z,Z,Z,Z,Z,Z,Z,Z,Z,Z,Z,Z,Z]
def l97_0 : SCode := (.seq (.seq (.region false [
    .m 51 4,
    .m 52 0,
    .o 53 (.len .str (.t 52)),
    .o 54 (.bin .lss .none (.t 51) (.t 53))])
  (.cond (.t 54)
  .skip
  (.exit 0 q97_0)))
  (.seq (.block 1 q97_1
  (.seq (.seq (.region false [
    .m 57 0,
    .m 58 4,
    .o 59 (.indexStr (.t 57) (.t 58)),
    .o 60 (.bin .leq .none (.const (.int .u8 48)) (.t 59)),
    .m 61 60,
    .gm 62 61 true 0,
    .gm 63 61 true 4,
    .g 64 61 true (.indexStr (.t 62) (.t 63)),
    .g 65 61 true (.bin .leq .none (.t 64) (.const (.int .u8 57))),
    .o 66 (.pick (.t 61) (.t 65) (.b false)),
    .m 67 66,
    .gm 68 67 false 5,
    .gm 69 67 false 68,
    .gm 70 69 true 0,
    .gm 71 69 true 4,
    .g 72 69 true (.indexStr (.t 70) (.t 71)),
    .g 73 69 true (.call (.f 96) [(.t 72)]),
    .g 74 69 true (.bin .leq .none (.const (.int .u8 97)) (.t 73)),
    .g 75 67 false (.pick (.t 69) (.t 74) (.b false)),
    .gm 76 67 false 75,
    .gm 77 76 true 0,
    .gm 78 76 true 4,
    .g 79 76 true (.indexStr (.t 77) (.t 78)),
    .g 80 76 true (.call (.f 96) [(.t 79)]),
    .g 81 76 true (.bin .leq .none (.t 80) (.const (.int .u8 102))),
    .g 82 67 false (.pick (.t 76) (.t 81) (.b false)),
    .o 83 (.pick (.t 67) (.b true) (.t 82))])
  (.cond (.t 83)
  (.seq (.region false [
    .o 3 (.mov (.const (.int .i32 48)))])
  (.exit 1 q97_1))
  .skip))
  (.seq (.seq (.region false [
    .m 84 0,
    .m 85 4,
    .o 86 (.indexStr (.t 84) (.t 85)),
    .o 87 (.bin .eql .none (.t 86) (.const (.int .u8 95)))])
  (.cond (.t 87)
  (.seq (.seq (.region false [
    .m 88 3,
    .o 89 (.bin .neq .none (.t 88) (.const (.int .i32 48)))])
  (.cond (.t 89)
  (.seq (.region false [
    .o 2 (.mov (.b false))])
  (.ret q97))
  .skip))
  (.seq (.region false [
    .o 3 (.mov (.const (.int .i32 95)))])
  (.exit 1 q97_1)))
  .skip))
  (.seq (.seq (.region false [
    .m 90 3,
    .o 91 (.bin .eql .none (.t 90) (.const (.int .i32 95)))])
  (.cond (.t 91)
  (.seq (.region false [
    .o 2 (.mov (.b false))])
  (.ret q97))
  .skip))
  (.region false [
    .o 3 (.mov (.const (.int .i32 33)))])))))
  (.region false [
    .m 55 4,
    .o 56 (.bin .add .none (.t 55) (.i 1)),
    .m 4 56])))
def s97_0 (t0 t3 t4 t5 : AV) : Fr := ⟨[t0,J,J,t3,t4,t5,J,J,J,J,J,J,J,J,J,J,J,J,J,J,J,J,J,J,J,J,J,J,J,J,J,J,J,J,J,J,J,J,J,J,J,J,J,J,J,J,J,J,J,J,J,J,J,J,J,J,J,J,J,J,J,J,J,J,J,J,J,J,J,J,J,J,J,J,J,J,J,J,J,J,J,J,J,J,J,J,J,J,J,J,J,J,J,J], [], .call⟩
def x97_0 (t3 : AV) : Fr := ⟨[J,J,J,t3,J,J,J,J,J,J,J,J,J,J,J,J,J,J,J,J,J,J,J,J,J,J,J,J,J,J,J,J,J,J,J,J,J,J,J,J,J,J,J,J,J,J,J,J,J,J,J,J,J,J,J,J,J,J,J,J,J,J,J,J,J,J,J,J,J,J,J,J,J,J,J,J,J,J,J,J,J,J,J,J,J,J,J,J,J,J,J,J,J,J], [], .call⟩
/-- internal/strconv.underscoreOK -/
def f97 : SFunc := ⟨.closed, 94, [(.tmp 2)],
  (.seq (.region false [
    .o 2 (.mov (.b false))])
  (.seq (.region false [
    .o 3 (.mov (.const (.int .i32 94)))])
  (.seq (.region false [
    .o 4 (.mov (.i 0))])
  (.seq (.seq (.region false [
    .m 6 0,
    .o 7 (.len .str (.t 6)),
    .o 8 (.bin .geq .none (.t 7) (.i 1)),
    .m 9 8,
    .gm 10 9 true 0,
    .g 11 9 true (.indexStr (.t 10) (.i 0)),
    .g 12 9 true (.bin .eql .none (.t 11) (.const (.int .u8 45))),
    .gm 13 9 true 12,
    .gm 14 13 false 0,
    .g 15 13 false (.indexStr (.t 14) (.i 0)),
    .g 16 13 false (.bin .eql .none (.t 15) (.const (.int .u8 43))),
    .g 17 9 true (.pick (.t 13) (.b true) (.t 16)),
    .o 18 (.pick (.t 9) (.t 17) (.b false))])
  (.cond (.t 18)
  (.region false [
    .m 19 0,
    .o 20 (.sliceStr (.t 19) (some (.i 1)) none),
    .m 0 20])
  .skip))
  (.seq (.region false [
    .o 5 (.mov (.b false))])
  (.seq (.seq (.region false [
    .m 21 0,
    .o 22 (.len .str (.t 21)),
    .o 23 (.bin .geq .none (.t 22) (.i 2)),
    .m 24 23,
    .gm 25 24 true 0,
    .g 26 24 true (.indexStr (.t 25) (.i 0)),
    .g 27 24 true (.bin .eql .none (.t 26) (.const (.int .u8 48))),
    .o 28 (.pick (.t 24) (.t 27) (.b false)),
    .m 29 28,
    .gm 30 29 true 0,
    .g 31 29 true (.indexStr (.t 30) (.i 1)),
    .g 32 29 true (.call (.f 96) [(.t 31)]),
    .g 33 29 true (.bin .eql .none (.t 32) (.const (.int .u8 98))),
    .gm 34 29 true 33,
    .gm 35 34 false 0,
    .g 36 34 false (.indexStr (.t 35) (.i 1)),
    .g 37 34 false (.call (.f 96) [(.t 36)]),
    .g 38 34 false (.bin .eql .none (.t 37) (.const (.int .u8 111))),
    .g 39 29 true (.pick (.t 34) (.b true) (.t 38)),
    .gm 40 29 true 39,
    .gm 41 40 false 0,
    .g 42 40 false (.indexStr (.t 41) (.i 1)),
    .g 43 40 false (.call (.f 96) [(.t 42)]),
    .g 44 40 false (.bin .eql .none (.t 43) (.const (.int .u8 120))),
    .g 45 29 true (.pick (.t 40) (.b true) (.t 44)),
    .o 46 (.pick (.t 29) (.t 45) (.b false))])
  (.cond (.t 46)
  (.seq (.region false [
    .o 4 (.mov (.i 2))])
  (.seq (.region false [
    .o 3 (.mov (.const (.int .i32 48)))])
  (.region false [
    .m 47 0,
    .o 48 (.indexStr (.t 47) (.i 1)),
    .o 49 (.call (.f 96) [(.t 48)]),
    .o 50 (.bin .eql .none (.t 49) (.const (.int .u8 120))),
    .m 5 50])))
  .skip))
  (.seq (.block 0 q97_0
  (.loop k97_0 l97_0))
  (.seq (.region false [
    .m 92 3,
    .o 93 (.bin .neq .none (.t 92) (.const (.int .i32 95))),
    .m 2 93])
  (.ret q97)))))))))⟩
abbrev q99 : List Bool := [Z,Z,X,Z,Z,Z,Z]
def r99 (t2 : AV) : Fr := ⟨[J,J,t2,J,J,J,J], [], .call⟩
/-- errors.New -/
def f99 : SFunc := ⟨.open_, 7, [(.tmp 2)],
  (.seq (.region false [
    .o 2 (.mov (.const .niliface))])
  (.seq (.region false [
    .m 3 0,
    .o 4 (.build [(.str [])] [(0, 1, (.t 3))]),
    .o 5 (.box 1 (.t 4)),
    .o 6 (.mkIface 3 (.t 5)),
    .m 2 6])
  (.ret q99)))⟩
abbrev q100 : List Bool := [Z,Z,X,Z,Z]
def r100 (t2 : AV) : Fr := ⟨[J,J,t2,J,J], [], .call⟩
/-- strconv.Itoa -/
def f100 : SFunc := ⟨.closed, 5, [(.tmp 2)],
  (.seq (.region false [
    .o 2 (.mov (.s []))])
  (.seq (.region false [
    .m 3 0,
    .o 4 (.call (.f 102) [(.t 3)]),
    .m 2 4])
  (.ret q100)))⟩
abbrev q101 : List Bool := [Z,Z,X,Z,Z,Z,Z,Z,Z,Z,Z,Z,Z,Z,Z,Z,Z,Z,Z,Z,Z,Z,Z,Z,Z,Z,Z,Z,Z,Z,Z,Z]
def r101 (t2 : AV) : Fr := ⟨[J,J,t2,J,J,J,J,J,J,J,J,J,J,J,J,J,J,J,J,J,J,J,J,J,J,J,J,J,J,J,J,J], [], .call⟩
/-- (*drachm/parse.parser).power -/
def f101 : SFunc := ⟨.open_, 32, [(.tmp 2)],
  (.seq (.region false [
    .o 2 (.mov (.i 0))])
  (.seq (.region false [
    .o 6 (.buildSlice 2 [(.int .i64 0), (.int .i64 0)] [(0, 1, (.i 3)), (1, 1, (.i 2))]),
    .m 7 0,
    .o 8 (.mkFn 82 [(.t 7)] []),
    .o 9 (.call (.f 103) [(.t 6), (.t 8)]),
    .m 3 9])
  (.seq (.seq (.region false [
    .m 10 0,
    .o 11 (.nilCheck (.t 10)),
    .o 12 (.fieldAddr 3 (.t 11)),
    .o 13 (.fieldAddr 3 (.t 12)),
    .o 14 (.load false 1 (.t 13)),
    .o 15 (.bin .neq .none (.t 14) (.const (.int .u8 0)))])
  (.cond (.t 15)
  (.region false [
    .m 16 0,
    .o 17 (.call (.f 68) [(.t 16), (.i 6)]),
    .m 3 17])
  .skip))
  (.seq (.seq (.region false [
    .m 18 3,
    .o 19 (.un .not (.t 18))])
  (.cond (.t 19)
  (.seq (.region false [
    .o 2 (.mov (.i 1))])
  (.ret q101))
  .skip))
  (.seq (.region false [
    .o 4 (.mov (.b false))])
  (.seq (.seq (.region false [
    .m 20 0,
    .o 21 (.call (.f 82) [(.t 20), (.i 3)])])
  (.cond (.t 21)
  (.region false [
    .m 22 0,
    .o 23 (.call (.f 83) [(.t 22)]),
    .o 24 (.field false 2 1 (.t 23)),
    .o 25 (.bin .eql .none (.t 24) (.s [45])),
    .m 4 25])
  .skip))
  (.seq (.region false [
    .m 26 0,
    .o 27 (.call (.f 95) [(.t 26), (.i 0), (.i 99)]),
    .m 5 27])
  (.seq (.seq (.region false [
    .m 28 4])
  (.cond (.t 28)
  (.seq (.region false [
    .m 29 5,
    .o 30 (.un .neg (.t 29)),
    .m 2 30])
  (.ret q101))
  .skip))
  (.seq (.region false [
    .m 31 5,
    .m 2 31])
  (.ret q101))))))))))⟩
abbrev q102 : List Bool := [Z,Z,X,Z,Z]
def r102 (t2 : AV) : Fr := ⟨[J,J,t2,J,J], [], .call⟩
/-- internal/strconv.Itoa -/
def f102 : SFunc := ⟨.closed, 5, [(.tmp 2)],
  (.seq (.region false [
    .o 2 (.mov (.s []))])
  (.seq (.region false [
    .m 3 0,
    .o 4 (.call (.f 104) [(.t 3), (.i 10)]),
    .m 2 4])
  (.ret q102)))⟩
abbrev q103 : List Bool := [Z,Z,Z,Z,X,Z,Z,Z,Z]
def r103 (t4 : AV) : Fr := ⟨[J,J,J,J,t4,J,J,J,J], [], .call⟩
/-- slices.ContainsFunc[[]int,int] -/
def f103 : SFunc := ⟨.reader, 9, [(.tmp 4)],
  (.seq (.region false [
    .o 4 (.mov (.b false))])
  (.seq (.region false [
    .m 5 0,
    .m 6 1,
    .o 7 (.call (.f 105) [(.t 5), (.t 6)]),
    .o 8 (.bin .geq .none (.t 7) (.i 0)),
    .m 4 8])
  (.ret q103)))⟩
abbrev q104 : List Bool := [Z,Z,Z,Z,X,Z,Z,Z,Z,Z,Z,Z,Z,Z,Z,Z,Z,Z,Z,Z,Z,Z,Z,Z,Z,Z,Z,Z,Z,Z,Z,Z,Z,Z,Z,Z,Z,Z,Z,Z,Z,Z,Z,Z,Z,Z,Z,Z,Z,Z,Z,Z,Z,Z]
def r104 (t4 : AV) : Fr := ⟨[J,J,J,J,t4,J,J,J,J,J,J,J,J,J,J,J,J,J,J,J,J,J,J,J,J,J,J,J,J,J,J,J,J,J,J,J,J,J,J,J,J,J,J,J,J,J,J,J,J,J,J,J,J,J], [], .call⟩
/-- internal/strconv.FormatInt -/
def f104 : SFunc := ⟨.closed, 54, [(.tmp 4)],
  (.seq (.region false [
    .o 4 (.mov (.s []))])
  (.seq (.seq (.region false [
    .m 10 1,
    .o 11 (.bin .eql .none (.t 10) (.i 10))])
  (.cond (.t 11)
  (.seq (.seq (.region false [
    .m 12 0,
    .o 13 (.bin .leq .none (.i 0) (.t 12)),
    .m 14 13,
    .gm 15 14 true 0,
    .g 16 14 true (.bin .lss .none (.t 15) (.i 100)),
    .o 17 (.pick (.t 14) (.t 16) (.b false))])
  (.cond (.t 17)
  (.seq (.region false [
    .m 18 0,
    .o 19 (.call (.f 106) [(.t 18)]),
    .m 4 19])
  (.ret q104))
  .skip))
  (.seq (.region false [
    .o 5 (.alloc [(.int .u8 0), (.int .u8 0), (.int .u8 0), (.int .u8 0), (.int .u8 0), (.int .u8 0), (.int .u8 0), (.int .u8 0), (.int .u8 0), (.int .u8 0), (.int .u8 0), (.int .u8 0), (.int .u8 0), (.int .u8 0), (.int .u8 0), (.int .u8 0), (.int .u8 0), (.int .u8 0), (.int .u8 0), (.int .u8 0), (.int .u8 0), (.int .u8 0), (.int .u8 0), (.int .u8 0)])])
  (.seq (.region false [
    .m 20 0,
    .o 21 (.conv (.int .u64) (.t 20)),
    .m 6 21])
  (.seq (.seq (.region false [
    .m 22 0,
    .o 23 (.bin .lss .none (.t 22) (.i 0))])
  (.cond (.t 23)
  (.region false [
    .m 24 6,
    .o 25 (.un .neg (.t 24)),
    .m 6 25])
  .skip))
  (.seq (.region false [
    .m 26 6,
    .o 27 (.call (.f 107) [(.t 26)]),
    .m 7 27])
  (.seq (.region false [
    .m 28 7,
    .o 29 (.bin .add .none (.i 1) (.t 28)),
    .o 30 (.sliceArr 24 1 (.t 5) (some (.i 1)) (some (.t 29))),
    .m 31 6,
    .o 32 (.call (.f 108) [(.t 30), (.t 31)])])
  (.seq (.seq (.region false [
    .m 33 0,
    .o 34 (.bin .lss .none (.t 33) (.i 0))])
  (.cond (.t 34)
  (.seq (.region false [
    .o 35 (.indexAddrArr 24 1 (.t 5) (.i 0)),
    .n (.store 1 (.t 35) (.const (.int .u8 45)))])
  (.seq (.region false [
    .m 36 7,
    .o 37 (.bin .add .none (.i 1) (.t 36)),
    .o 38 (.sliceArr 24 1 (.t 5) none (some (.t 37))),
    .o 39 (.conv .toStr (.t 38)),
    .m 4 39])
  (.ret q104)))
  .skip))
  (.seq (.region false [
    .m 40 7,
    .o 41 (.bin .add .none (.i 1) (.t 40)),
    .o 42 (.sliceArr 24 1 (.t 5) (some (.i 1)) (some (.t 41))),
    .o 43 (.conv .toStr (.t 42)),
    .m 4 43])
  (.ret q104)))))))))
  .skip))
  (.seq (.region false [
    .m 45 0,
    .o 46 (.conv (.int .u64) (.t 45)),
    .m 47 1,
    .m 48 0,
    .o 49 (.bin .lss .none (.t 48) (.i 0)),
    .o 50 (.call (.f 109) [(.const .nils), (.t 46), (.t 47), (.t 49), (.b false)]),
    .m 44 50,
    .o 51 (.extract 0 (.t 44)),
    .o 52 (.extract 1 (.t 44)),
    .m 8 51,
    .m 9 52])
  (.seq (.region false [
    .m 53 9,
    .m 4 53])
  (.ret q104)))))⟩
abbrev q105_0 : List Bool := [Z,Z,Z,Z,Z,Z,Z,Z,Z,Z,Z,Z,Z,Z,Z,Z,Z,Z,Z]
abbrev q105 : List Bool := [Z,Z,Z,Z,X,Z,Z,Z,Z,Z,Z,Z,Z,Z,Z,Z,Z,Z,Z]
def r105 (t4 : AV) : Fr := ⟨[J,J,J,J,t4,J,J,J,J,J,J,J,J,J,J,J,J,J,J], [], .call⟩
abbrev q105_1 : List Bool := [X,X,Z,Z,Z,Z,Z,X,X,Z,Z,Z,Z,Z,Z,Z,Z,Z,Z]
def x105_1 (t0 t1 t7 t8 : AV) : Fr := ⟨[t0,t1,J,J,J,J,J,t7,t8,J,J,J,J,J,J,J,J,J,J], [], .call⟩
abbrev k105_0 : List Bool := [X,X,Z,Z,Z,Z,Z,X,X,Z,Z,Z,Z,Z,Z,Z,Z,Z,Z]
def l105_0 : SCode := (.seq (.region false [
    .o 9 (.bin .lss .none (.t 8) (.t 7))])
  (.seq (.cond (.t 9)
  .skip
  (.exit 0 q105_0))
  (.seq (.block 1 q105_1
  (.seq (.region false [
    .m 10 8,
    .m 5 10])
  (.seq (.region false [
    .m 11 1,
    .m 12 0,
    .m 13 5,
    .o 14 (.indexAddrVs 1 (.t 12) (.t 13)),
    .o 15 (.load false 1 (.t 14)),
    .o 16 (.call (.t 11) [(.t 15)])])
  (.cond (.t 16)
  (.seq (.region false [
    .m 17 5,
    .m 4 17])
  (.ret q105))
  .skip))))
  (.region false [
    .o 18 (.bin .add .none (.t 8) (.i 1)),
    .m 8 18]))))
def s105_0 (t0 t1 t7 t8 : AV) : Fr := ⟨[t0,t1,J,J,J,J,J,t7,t8,J,J,J,J,J,J,J,J,J,J], [], .call⟩
def x105_0 : Fr := ⟨[J,J,J,J,J,J,J,J,J,J,J,J,J,J,J,J,J,J,J], [], .call⟩
/-- slices.IndexFunc[[]int,int] -/
def f105 : SFunc := ⟨.reader, 19, [(.tmp 4)],
  (.seq (.region false [
    .o 4 (.mov (.i 0))])
  (.seq (.seq (.region false [
    .m 6 0,
    .o 7 (.len .slc (.t 6)),
    .o 8 (.mov (.i 0))])
  (.block 0 q105_0
  (.loop k105_0 l105_0)))
  (.seq (.region false [
    .o 4 (.mov (.i (-1)))])
  (.ret q105))))⟩
abbrev q106 : List Bool := [Z,Z,X,Z,Z,Z,Z,Z,Z,Z,Z,Z,Z,Z,Z]
def r106 (t2 : AV) : Fr := ⟨[J,J,t2,J,J,J,J,J,J,J,J,J,J,J,J], [], .call⟩
/-- internal/strconv.small -/
def f106 : SFunc := ⟨.closed, 15, [(.tmp 2)],
  (.seq (.region false [
    .o 2 (.mov (.s []))])
  (.seq (.seq (.region false [
    .m 3 0,
    .o 4 (.bin .lss .none (.t 3) (.i 10))])
  (.cond (.t 4)
  (.seq (.region false [
    .m 5 0,
    .m 6 0,
    .o 7 (.bin .add .none (.t 6) (.i 1)),
    .o 8 (.sliceStr (.s [48, 49, 50, 51, 52, 53, 54, 55, 56, 57, 97, 98, 99, 100, 101, 102, 103, 104, 105, 106, 107, 108, 109, 110, 111, 112, 113, 114, 115, 116, 117, 118, 119, 120, 121, 122]) (some (.t 5)) (some (.t 7))),
    .m 2 8])
  (.ret q106))
  .skip))
  (.seq (.region false [
    .m 9 0,
    .o 10 (.bin .mul .none (.t 9) (.i 2)),
    .m 11 0,
    .o 12 (.bin .mul .none (.t 11) (.i 2)),
    .o 13 (.bin .add .none (.t 12) (.i 2)),
    .o 14 (.sliceStr (.s [48, 48, 48, 49, 48, 50, 48, 51, 48, 52, 48, 53, 48, 54, 48, 55, 48, 56, 48, 57, 49, 48, 49, 49, 49, 50, 49, 51, 49, 52, 49, 53, 49, 54, 49, 55, 49, 56, 49, 57, 50, 48, 50, 49, 50, 50, 50, 51, 50, 52, 50, 53, 50, 54, 50, 55, 50, 56, 50, 57, 51, 48, 51, 49, 51, 50, 51, 51, 51, 52, 51, 53, 51, 54, 51, 55, 51, 56, 51, 57, 52, 48, 52, 49, 52, 50, 52, 51, 52, 52, 52, 53, 52, 54, 52, 55, 52, 56, 52, 57, 53, 48, 53, 49, 53, 50, 53, 51, 53, 52, 53, 53, 53, 54, 53, 55, 53, 56, 53, 57, 54, 48, 54, 49, 54, 50, 54, 51, 54, 52, 54, 53, 54, 54, 54, 55, 54, 56, 54, 57, 55, 48, 55, 49, 55, 50, 55, 51, 55, 52, 55, 53, 55, 54, 55, 55, 55, 56, 55, 57, 56, 48, 56, 49, 56, 50, 56, 51, 56, 52, 56, 53, 56, 54, 56, 55, 56, 56, 56, 57, 57, 48, 57, 49, 57, 50, 57, 51, 57, 52, 57, 53, 57, 54, 57, 55, 57, 56, 57, 57]) (some (.t 10)) (some (.t 13))),
    .m 2 14])
  (.ret q106))))⟩
abbrev q107 : List Bool := [Z,Z,X,Z,Z,Z,Z,Z,Z,Z,Z,Z,Z,Z,Z]
def r107 (t2 : AV) : Fr := ⟨[J,J,t2,J,J,J,J,J,J,J,J,J,J,J,J], [], .call⟩
/-- internal/strconv.numDigits -/
def f107 : SFunc := ⟨.closed, 15, [(.tmp 2)],
  (.seq (.region false [
    .o 2 (.mov (.i 0))])
  (.seq (.region false [
    .m 4 0,
    .o 5 (.call (.f 111) [(.t 4)]),
    .o 6 (.call (.f 110) [(.t 5)]),
    .m 3 6])
  (.seq (.region false [
    .m 7 3,
    .m 8 0,
    .m 9 3,
    .o 10 (.indexAddrArr 20 1 (.glob 5) (.t 9)),
    .o 11 (.load false 1 (.t 10)),
    .o 12 (.bin .geq .none (.t 8) (.t 11)),
    .o 13 (.call (.f 112) [(.t 12)]),
    .o 14 (.bin .add .none (.t 7) (.t 13)),
    .m 2 14])
  (.ret q107))))⟩
abbrev q108_0 : List Bool := [X,X,Z,Z,X,Z,Z,Z,Z,Z,Z,Z,Z,Z,Z,Z,Z,Z,Z,Z,Z,Z,Z,Z,Z,Z,Z,Z,Z,Z,Z,Z,Z,Z,Z,Z,Z,Z,Z,Z,Z,Z,Z,Z,Z,Z,Z,Z,Z,Z,Z,Z,Z,Z,Z,Z,Z,Z,Z,Z,Z,Z,Z,Z,Z,Z,Z,Z,Z,Z,Z,Z,Z,Z,Z,Z,Z,Z,Z,Z,Z,Z,Z,Z,Z,Z,Z,Z,Z,Z,Z,Z,Z,Z,Z,Z,Z,Z,Z,Z,Z,Z,Z,Z,Z,Z,Z,Z,Z,Z,Z,Z,Z,Z,Z,Z,Z,Z,Z,Z,Z,Z,Z,Z,Z,Z,Z,Z,Z,Z,Z,Z,Z,Z,Z,Z,Z,Z,Z,Z,Z,Z,Z,Z,Z,Z,Z,Z,Z,Z,Z,Z,Z,Z,Z,Z,Z,Z,Z,Z,Z,Z,Z,Z,Z,Z,Z]
abbrev q108_1 : List Bool := [X,X,Z,Z,X,Z,Z,Z,Z,Z,Z,Z,Z,Z,Z,Z,Z,Z,Z,Z,Z,Z,Z,Z,Z,Z,Z,Z,Z,Z,Z,Z,Z,Z,Z,Z,Z,Z,Z,Z,Z,Z,Z,Z,Z,Z,Z,Z,Z,Z,Z,Z,Z,Z,Z,Z,Z,Z,Z,Z,Z,Z,Z,Z,Z,Z,Z,Z,Z,Z,Z,Z,Z,Z,Z,Z,Z,Z,Z,Z,Z,Z,Z,Z,Z,Z,Z,Z,Z,Z,Z,Z,Z,Z,Z,Z,Z,Z,Z,Z,Z,Z,Z,Z,Z,Z,Z,Z,Z,Z,Z,Z,Z,Z,Z,Z,Z,Z,Z,Z,Z,Z,Z,Z,Z,Z,Z,Z,Z,Z,Z,Z,Z,Z,Z,Z,Z,Z,Z,Z,Z,Z,Z,Z,Z,Z,Z,Z,Z,Z,Z,Z,Z,Z,Z,Z,Z,Z,Z,Z,Z,Z,Z,Z,Z,Z,Z]
def x108_1 (t0 t1 t4 : AV) : Fr := ⟨[t0,t1,J,J,t4,J,J,J,J,J,J,J,J,J,J,J,J,J,J,J,J,J,J,J,J,J,J,J,J,J,J,J,J,J,J,J,J,J,J,J,J,J,J,J,J,J,J,J,J,J,J,J,J,J,J,J,J,J,J,J,J,J,J,J,J,J,J,J,J,J,J,J,J,J,J,J,J,J,J,J,J,J,J,J,J,J,J,J,J,J,J,J,J,J,J,J,J,J,J,J,J,J,J,J,J,J,J,J,J,J,J,J,J,J,J,J,J,J,J,J,J,J,J,J,J,J,J,J,J,J,J,J,J,J,J,J,J,J,J,J,J,J,J,J,J,J,J,J,J,J,J,J,J,J,J,J,J,J,J,J,J,J,J,J,J,J,J], [], .call⟩
abbrev k108_0 : List Bool := [X,X,Z,Z,X,Z,Z,Z,Z,Z,Z,Z,Z,Z,Z,Z,Z,Z,Z,Z,Z,Z,Z,Z,Z,Z,Z,Z,Z,Z,Z,Z,Z,Z,Z,Z,Z,Z,Z,Z,Z,Z,Z,Z,Z,Z,Z,Z,Z,Z,Z,Z,Z,Z,Z,Z,Z,Z,Z,Z,Z,Z,Z,Z,Z,Z,Z,Z,Z,Z,Z,Z,Z,Z,Z,Z,Z,Z,Z,Z,Z,Z,Z,Z,Z,Z,Z,Z,Z,Z,Z,Z,Z,Z,Z,Z,Z,Z,Z,Z,Z,Z,Z,Z,Z,Z,Z,Z,Z,Z,Z,Z,Z,Z,Z,Z,Z,Z,Z,Z,Z,Z,Z,Z,Z,Z,Z,Z,Z,Z,Z,Z,Z,Z,Z,Z,Z,Z,Z,Z,Z,Z,Z,Z,Z,Z,Z,Z,Z,Z,Z,Z,Z,Z,Z,Z,Z,Z,Z,Z,Z,Z,Z,Z,Z,Z,Z]
def l108_0 : SCode := (.seq (.seq (.region false [
    .m 19 4,
    .o 20 (.bin .geq .none (.t 19) (.i 8))])
  (.cond (.t 20)
  .skip
  (.exit 0 q108_0)))
  (.block 1 q108_1
  (.seq (.region false [
    .m 21 1,
    .o 22 (.bin .rem .none (.t 21) (.const (.int .u64 100000000))),
    .o 23 (.conv (.int .u32) (.t 22)),
    .m 5 23])
  (.seq (.region false [
    .m 24 1,
    .o 25 (.bin .quo .none (.t 24) (.const (.int .u64 100000000))),
    .m 1 25])
  (.seq (.region false [
    .m 26 5,
    .o 27 (.bin .quo .none (.t 26) (.const (.int .u32 10000))),
    .m 28 5,
    .o 29 (.bin .rem .none (.t 28) (.const (.int .u32 10000))),
    .m 6 27,
    .m 7 29])
  (.seq (.region false [
    .m 30 7,
    .o 31 (.bin .quo .none (.t 30) (.const (.int .u32 100))),
    .o 32 (.bin .mul .none (.t 31) (.const (.int .u32 2))),
    .m 33 7,
    .o 34 (.bin .rem .none (.t 33) (.const (.int .u32 100))),
    .o 35 (.bin .mul .none (.t 34) (.const (.int .u32 2))),
    .m 8 32,
    .m 9 35])
  (.seq (.region false [
    .m 36 6,
    .o 37 (.bin .quo .none (.t 36) (.const (.int .u32 100))),
    .o 38 (.bin .mul .none (.t 37) (.const (.int .u32 2))),
    .m 39 6,
    .o 40 (.bin .rem .none (.t 39) (.const (.int .u32 100))),
    .o 41 (.bin .mul .none (.t 40) (.const (.int .u32 2))),
    .m 10 38,
    .m 11 41])
  (.seq (.region true [
    .m 42 0,
    .m 43 4,
    .o 44 (.bin .sub .none (.t 43) (.i 1)),
    .m 45 0,
    .m 46 4,
    .o 47 (.bin .sub .none (.t 46) (.i 2)),
    .m 48 9,
    .o 49 (.bin .add .none (.t 48) (.const (.int .u32 1))),
    .o 50 (.indexStr (.s [48, 48, 48, 49, 48, 50, 48, 51, 48, 52, 48, 53, 48, 54, 48, 55, 48, 56, 48, 57, 49, 48, 49, 49, 49, 50, 49, 51, 49, 52, 49, 53, 49, 54, 49, 55, 49, 56, 49, 57, 50, 48, 50, 49, 50, 50, 50, 51, 50, 52, 50, 53, 50, 54, 50, 55, 50, 56, 50, 57, 51, 48, 51, 49, 51, 50, 51, 51, 51, 52, 51, 53, 51, 54, 51, 55, 51, 56, 51, 57, 52, 48, 52, 49, 52, 50, 52, 51, 52, 52, 52, 53, 52, 54, 52, 55, 52, 56, 52, 57, 53, 48, 53, 49, 53, 50, 53, 51, 53, 52, 53, 53, 53, 54, 53, 55, 53, 56, 53, 57, 54, 48, 54, 49, 54, 50, 54, 51, 54, 52, 54, 53, 54, 54, 54, 55, 54, 56, 54, 57, 55, 48, 55, 49, 55, 50, 55, 51, 55, 52, 55, 53, 55, 54, 55, 55, 55, 56, 55, 57, 56, 48, 56, 49, 56, 50, 56, 51, 56, 52, 56, 53, 56, 54, 56, 55, 56, 56, 56, 57, 57, 48, 57, 49, 57, 50, 57, 51, 57, 52, 57, 53, 57, 54, 57, 55, 57, 56, 57, 57]) (.t 49)),
    .m 51 9,
    .o 52 (.indexStr (.s [48, 48, 48, 49, 48, 50, 48, 51, 48, 52, 48, 53, 48, 54, 48, 55, 48, 56, 48, 57, 49, 48, 49, 49, 49, 50, 49, 51, 49, 52, 49, 53, 49, 54, 49, 55, 49, 56, 49, 57, 50, 48, 50, 49, 50, 50, 50, 51, 50, 52, 50, 53, 50, 54, 50, 55, 50, 56, 50, 57, 51, 48, 51, 49, 51, 50, 51, 51, 51, 52, 51, 53, 51, 54, 51, 55, 51, 56, 51, 57, 52, 48, 52, 49, 52, 50, 52, 51, 52, 52, 52, 53, 52, 54, 52, 55, 52, 56, 52, 57, 53, 48, 53, 49, 53, 50, 53, 51, 53, 52, 53, 53, 53, 54, 53, 55, 53, 56, 53, 57, 54, 48, 54, 49, 54, 50, 54, 51, 54, 52, 54, 53, 54, 54, 54, 55, 54, 56, 54, 57, 55, 48, 55, 49, 55, 50, 55, 51, 55, 52, 55, 53, 55, 54, 55, 55, 55, 56, 55, 57, 56, 48, 56, 49, 56, 50, 56, 51, 56, 52, 56, 53, 56, 54, 56, 55, 56, 56, 56, 57, 57, 48, 57, 49, 57, 50, 57, 51, 57, 52, 57, 53, 57, 54, 57, 55, 57, 56, 57, 57]) (.t 51)),
    .o 53 (.indexAddrVs 1 (.t 42) (.t 44)),
    .n (.store 1 (.t 53) (.t 50)),
    .o 54 (.indexAddrVs 1 (.t 45) (.t 47)),
    .n (.store 1 (.t 54) (.t 52))])
  (.seq (.region true [
    .m 55 0,
    .m 56 4,
    .o 57 (.bin .sub .none (.t 56) (.i 3)),
    .m 58 0,
    .m 59 4,
    .o 60 (.bin .sub .none (.t 59) (.i 4)),
    .m 61 8,
    .o 62 (.bin .add .none (.t 61) (.const (.int .u32 1))),
    .o 63 (.indexStr (.s [48, 48, 48, 49, 48, 50, 48, 51, 48, 52, 48, 53, 48, 54, 48, 55, 48, 56, 48, 57, 49, 48, 49, 49, 49, 50, 49, 51, 49, 52, 49, 53, 49, 54, 49, 55, 49, 56, 49, 57, 50, 48, 50, 49, 50, 50, 50, 51, 50, 52, 50, 53, 50, 54, 50, 55, 50, 56, 50, 57, 51, 48, 51, 49, 51, 50, 51, 51, 51, 52, 51, 53, 51, 54, 51, 55, 51, 56, 51, 57, 52, 48, 52, 49, 52, 50, 52, 51, 52, 52, 52, 53, 52, 54, 52, 55, 52, 56, 52, 57, 53, 48, 53, 49, 53, 50, 53, 51, 53, 52, 53, 53, 53, 54, 53, 55, 53, 56, 53, 57, 54, 48, 54, 49, 54, 50, 54, 51, 54, 52, 54, 53, 54, 54, 54, 55, 54, 56, 54, 57, 55, 48, 55, 49, 55, 50, 55, 51, 55, 52, 55, 53, 55, 54, 55, 55, 55, 56, 55, 57, 56, 48, 56, 49, 56, 50, 56, 51, 56, 52, 56, 53, 56, 54, 56, 55, 56, 56, 56, 57, 57, 48, 57, 49, 57, 50, 57, 51, 57, 52, 57, 53, 57, 54, 57, 55, 57, 56, 57, 57]) (.t 62)),
    .m 64 8,
    .o 65 (.indexStr (.s [48, 48, 48, 49, 48, 50, 48, 51, 48, 52, 48, 53, 48, 54, 48, 55, 48, 56, 48, 57, 49, 48, 49, 49, 49, 50, 49, 51, 49, 52, 49, 53, 49, 54, 49, 55, 49, 56, 49, 57, 50, 48, 50, 49, 50, 50, 50, 51, 50, 52, 50, 53, 50, 54, 50, 55, 50, 56, 50, 57, 51, 48, 51, 49, 51, 50, 51, 51, 51, 52, 51, 53, 51, 54, 51, 55, 51, 56, 51, 57, 52, 48, 52, 49, 52, 50, 52, 51, 52, 52, 52, 53, 52, 54, 52, 55, 52, 56, 52, 57, 53, 48, 53, 49, 53, 50, 53, 51, 53, 52, 53, 53, 53, 54, 53, 55, 53, 56, 53, 57, 54, 48, 54, 49, 54, 50, 54, 51, 54, 52, 54, 53, 54, 54, 54, 55, 54, 56, 54, 57, 55, 48, 55, 49, 55, 50, 55, 51, 55, 52, 55, 53, 55, 54, 55, 55, 55, 56, 55, 57, 56, 48, 56, 49, 56, 50, 56, 51, 56, 52, 56, 53, 56, 54, 56, 55, 56, 56, 56, 57, 57, 48, 57, 49, 57, 50, 57, 51, 57, 52, 57, 53, 57, 54, 57, 55, 57, 56, 57, 57]) (.t 64)),
    .o 66 (.indexAddrVs 1 (.t 55) (.t 57)),
    .n (.store 1 (.t 66) (.t 63)),
    .o 67 (.indexAddrVs 1 (.t 58) (.t 60)),
    .n (.store 1 (.t 67) (.t 65))])
  (.seq (.region true [
    .m 68 0,
    .m 69 4,
    .o 70 (.bin .sub .none (.t 69) (.i 5)),
    .m 71 0,
    .m 72 4,
    .o 73 (.bin .sub .none (.t 72) (.i 6)),
    .m 74 11,
    .o 75 (.bin .add .none (.t 74) (.const (.int .u32 1))),
    .o 76 (.indexStr (.s [48, 48, 48, 49, 48, 50, 48, 51, 48, 52, 48, 53, 48, 54, 48, 55, 48, 56, 48, 57, 49, 48, 49, 49, 49, 50, 49, 51, 49, 52, 49, 53, 49, 54, 49, 55, 49, 56, 49, 57, 50, 48, 50, 49, 50, 50, 50, 51, 50, 52, 50, 53, 50, 54, 50, 55, 50, 56, 50, 57, 51, 48, 51, 49, 51, 50, 51, 51, 51, 52, 51, 53, 51, 54, 51, 55, 51, 56, 51, 57, 52, 48, 52, 49, 52, 50, 52, 51, 52, 52, 52, 53, 52, 54, 52, 55, 52, 56, 52, 57, 53, 48, 53, 49, 53, 50, 53, 51, 53, 52, 53, 53, 53, 54, 53, 55, 53, 56, 53, 57, 54, 48, 54, 49, 54, 50, 54, 51, 54, 52, 54, 53, 54, 54, 54, 55, 54, 56, 54, 57, 55, 48, 55, 49, 55, 50, 55, 51, 55, 52, 55, 53, 55, 54, 55, 55, 55, 56, 55, 57, 56, 48, 56, 49, 56, 50, 56, 51, 56, 52, 56, 53, 56, 54, 56, 55, 56, 56, 56, 57, 57, 48, 57, 49, 57, 50, 57, 51, 57, 52, 57, 53, 57, 54, 57, 55, 57, 56, 57, 57]) (.t 75)),
    .m 77 11,
    .o 78 (.indexStr (.s [48, 48, 48, 49, 48, 50, 48, 51, 48, 52, 48, 53, 48, 54, 48, 55, 48, 56, 48, 57, 49, 48, 49, 49, 49, 50, 49, 51, 49, 52, 49, 53, 49, 54, 49, 55, 49, 56, 49, 57, 50, 48, 50, 49, 50, 50, 50, 51, 50, 52, 50, 53, 50, 54, 50, 55, 50, 56, 50, 57, 51, 48, 51, 49, 51, 50, 51, 51, 51, 52, 51, 53, 51, 54, 51, 55, 51, 56, 51, 57, 52, 48, 52, 49, 52, 50, 52, 51, 52, 52, 52, 53, 52, 54, 52, 55, 52, 56, 52, 57, 53, 48, 53, 49, 53, 50, 53, 51, 53, 52, 53, 53, 53, 54, 53, 55, 53, 56, 53, 57, 54, 48, 54, 49, 54, 50, 54, 51, 54, 52, 54, 53, 54, 54, 54, 55, 54, 56, 54, 57, 55, 48, 55, 49, 55, 50, 55, 51, 55, 52, 55, 53, 55, 54, 55, 55, 55, 56, 55, 57, 56, 48, 56, 49, 56, 50, 56, 51, 56, 52, 56, 53, 56, 54, 56, 55, 56, 56, 56, 57, 57, 48, 57, 49, 57, 50, 57, 51, 57, 52, 57, 53, 57, 54, 57, 55, 57, 56, 57, 57]) (.t 77)),
    .o 79 (.indexAddrVs 1 (.t 68) (.t 70)),
    .n (.store 1 (.t 79) (.t 76)),
    .o 80 (.indexAddrVs 1 (.t 71) (.t 73)),
    .n (.store 1 (.t 80) (.t 78))])
  (.seq (.region true [
    .m 81 0,
    .m 82 4,
    .o 83 (.bin .sub .none (.t 82) (.i 7)),
    .m 84 0,
    .m 85 4,
    .o 86 (.bin .sub .none (.t 85) (.i 8)),
    .m 87 10,
    .o 88 (.bin .add .none (.t 87) (.const (.int .u32 1))),
    .o 89 (.indexStr (.s [48, 48, 48, 49, 48, 50, 48, 51, 48, 52, 48, 53, 48, 54, 48, 55, 48, 56, 48, 57, 49, 48, 49, 49, 49, 50, 49, 51, 49, 52, 49, 53, 49, 54, 49, 55, 49, 56, 49, 57, 50, 48, 50, 49, 50, 50, 50, 51, 50, 52, 50, 53, 50, 54, 50, 55, 50, 56, 50, 57, 51, 48, 51, 49, 51, 50, 51, 51, 51, 52, 51, 53, 51, 54, 51, 55, 51, 56, 51, 57, 52, 48, 52, 49, 52, 50, 52, 51, 52, 52, 52, 53, 52, 54, 52, 55, 52, 56, 52, 57, 53, 48, 53, 49, 53, 50, 53, 51, 53, 52, 53, 53, 53, 54, 53, 55, 53, 56, 53, 57, 54, 48, 54, 49, 54, 50, 54, 51, 54, 52, 54, 53, 54, 54, 54, 55, 54, 56, 54, 57, 55, 48, 55, 49, 55, 50, 55, 51, 55, 52, 55, 53, 55, 54, 55, 55, 55, 56, 55, 57, 56, 48, 56, 49, 56, 50, 56, 51, 56, 52, 56, 53, 56, 54, 56, 55, 56, 56, 56, 57, 57, 48, 57, 49, 57, 50, 57, 51, 57, 52, 57, 53, 57, 54, 57, 55, 57, 56, 57, 57]) (.t 88)),
    .m 90 10,
    .o 91 (.indexStr (.s [48, 48, 48, 49, 48, 50, 48, 51, 48, 52, 48, 53, 48, 54, 48, 55, 48, 56, 48, 57, 49, 48, 49, 49, 49, 50, 49, 51, 49, 52, 49, 53, 49, 54, 49, 55, 49, 56, 49, 57, 50, 48, 50, 49, 50, 50, 50, 51, 50, 52, 50, 53, 50, 54, 50, 55, 50, 56, 50, 57, 51, 48, 51, 49, 51, 50, 51, 51, 51, 52, 51, 53, 51, 54, 51, 55, 51, 56, 51, 57, 52, 48, 52, 49, 52, 50, 52, 51, 52, 52, 52, 53, 52, 54, 52, 55, 52, 56, 52, 57, 53, 48, 53, 49, 53, 50, 53, 51, 53, 52, 53, 53, 53, 54, 53, 55, 53, 56, 53, 57, 54, 48, 54, 49, 54, 50, 54, 51, 54, 52, 54, 53, 54, 54, 54, 55, 54, 56, 54, 57, 55, 48, 55, 49, 55, 50, 55, 51, 55, 52, 55, 53, 55, 54, 55, 55, 55, 56, 55, 57, 56, 48, 56, 49, 56, 50, 56, 51, 56, 52, 56, 53, 56, 54, 56, 55, 56, 56, 56, 57, 57, 48, 57, 49, 57, 50, 57, 51, 57, 52, 57, 53, 57, 54, 57, 55, 57, 56, 57, 57]) (.t 90)),
    .o 92 (.indexAddrVs 1 (.t 81) (.t 83)),
    .n (.store 1 (.t 92) (.t 89)),
    .o 93 (.indexAddrVs 1 (.t 84) (.t 86)),
    .n (.store 1 (.t 93) (.t 91))])
  (.region false [
    .m 94 4,
    .o 95 (.bin .sub .none (.t 94) (.i 8)),
    .m 4 95]))))))))))))
def s108_0 (t0 t1 t4 : AV) : Fr := ⟨[t0,t1,J,J,t4,J,J,J,J,J,J,J,J,J,J,J,J,J,J,J,J,J,J,J,J,J,J,J,J,J,J,J,J,J,J,J,J,J,J,J,J,J,J,J,J,J,J,J,J,J,J,J,J,J,J,J,J,J,J,J,J,J,J,J,J,J,J,J,J,J,J,J,J,J,J,J,J,J,J,J,J,J,J,J,J,J,J,J,J,J,J,J,J,J,J,J,J,J,J,J,J,J,J,J,J,J,J,J,J,J,J,J,J,J,J,J,J,J,J,J,J,J,J,J,J,J,J,J,J,J,J,J,J,J,J,J,J,J,J,J,J,J,J,J,J,J,J,J,J,J,J,J,J,J,J,J,J,J,J,J,J,J,J,J,J,J,J], [], .call⟩
def x108_0 (t0 t1 t4 : AV) : Fr := ⟨[t0,t1,J,J,t4,J,J,J,J,J,J,J,J,J,J,J,J,J,J,J,J,J,J,J,J,J,J,J,J,J,J,J,J,J,J,J,J,J,J,J,J,J,J,J,J,J,J,J,J,J,J,J,J,J,J,J,J,J,J,J,J,J,J,J,J,J,J,J,J,J,J,J,J,J,J,J,J,J,J,J,J,J,J,J,J,J,J,J,J,J,J,J,J,J,J,J,J,J,J,J,J,J,J,J,J,J,J,J,J,J,J,J,J,J,J,J,J,J,J,J,J,J,J,J,J,J,J,J,J,J,J,J,J,J,J,J,J,J,J,J,J,J,J,J,J,J,J,J,J,J,J,J,J,J,J,J,J,J,J,J,J,J,J,J,J,J,J], [], .call⟩
/-- internal/strconv.formatBase10 -/
def f108 : SFunc := ⟨.closed, 167, [],
  (.seq (.region false [
    .m 17 0,
    .o 18 (.len .slc (.t 17)),
    .m 4 18])
  (.seq (.block 0 q108_0
  (.loop k108_0 l108_0))
  (.seq (.region false [
    .m 96 1,
    .o 97 (.conv (.int .u32) (.t 96)),
    .m 12 97])
  (.seq (.seq (.region false [
    .m 98 4,
    .o 99 (.bin .geq .none (.t 98) (.i 4))])
  (.cond (.t 99)
  (.seq (.region false [
    .m 100 12,
    .o 101 (.bin .rem .none (.t 100) (.const (.int .u32 10000))),
    .m 13 101])
  (.seq (.region false [
    .m 102 12,
    .o 103 (.bin .quo .none (.t 102) (.const (.int .u32 10000))),
    .m 12 103])
  (.seq (.region false [
    .m 104 13,
    .o 105 (.bin .quo .none (.t 104) (.const (.int .u32 100))),
    .o 106 (.bin .mul .none (.t 105) (.const (.int .u32 2))),
    .m 107 13,
    .o 108 (.bin .rem .none (.t 107) (.const (.int .u32 100))),
    .o 109 (.bin .mul .none (.t 108) (.const (.int .u32 2))),
    .m 14 106,
    .m 15 109])
  (.seq (.region true [
    .m 110 0,
    .m 111 4,
    .o 112 (.bin .sub .none (.t 111) (.i 1)),
    .m 113 0,
    .m 114 4,
    .o 115 (.bin .sub .none (.t 114) (.i 2)),
    .m 116 15,
    .o 117 (.bin .add .none (.t 116) (.const (.int .u32 1))),
    .o 118 (.indexStr (.s [48, 48, 48, 49, 48, 50, 48, 51, 48, 52, 48, 53, 48, 54, 48, 55, 48, 56, 48, 57, 49, 48, 49, 49, 49, 50, 49, 51, 49, 52, 49, 53, 49, 54, 49, 55, 49, 56, 49, 57, 50, 48, 50, 49, 50, 50, 50, 51, 50, 52, 50, 53, 50, 54, 50, 55, 50, 56, 50, 57, 51, 48, 51, 49, 51, 50, 51, 51, 51, 52, 51, 53, 51, 54, 51, 55, 51, 56, 51, 57, 52, 48, 52, 49, 52, 50, 52, 51, 52, 52, 52, 53, 52, 54, 52, 55, 52, 56, 52, 57, 53, 48, 53, 49, 53, 50, 53, 51, 53, 52, 53, 53, 53, 54, 53, 55, 53, 56, 53, 57, 54, 48, 54, 49, 54, 50, 54, 51, 54, 52, 54, 53, 54, 54, 54, 55, 54, 56, 54, 57, 55, 48, 55, 49, 55, 50, 55, 51, 55, 52, 55, 53, 55, 54, 55, 55, 55, 56, 55, 57, 56, 48, 56, 49, 56, 50, 56, 51, 56, 52, 56, 53, 56, 54, 56, 55, 56, 56, 56, 57, 57, 48, 57, 49, 57, 50, 57, 51, 57, 52, 57, 53, 57, 54, 57, 55, 57, 56, 57, 57]) (.t 117)),
    .m 119 15,
    .o 120 (.indexStr (.s [48, 48, 48, 49, 48, 50, 48, 51, 48, 52, 48, 53, 48, 54, 48, 55, 48, 56, 48, 57, 49, 48, 49, 49, 49, 50, 49, 51, 49, 52, 49, 53, 49, 54, 49, 55, 49, 56, 49, 57, 50, 48, 50, 49, 50, 50, 50, 51, 50, 52, 50, 53, 50, 54, 50, 55, 50, 56, 50, 57, 51, 48, 51, 49, 51, 50, 51, 51, 51, 52, 51, 53, 51, 54, 51, 55, 51, 56, 51, 57, 52, 48, 52, 49, 52, 50, 52, 51, 52, 52, 52, 53, 52, 54, 52, 55, 52, 56, 52, 57, 53, 48, 53, 49, 53, 50, 53, 51, 53, 52, 53, 53, 53, 54, 53, 55, 53, 56, 53, 57, 54, 48, 54, 49, 54, 50, 54, 51, 54, 52, 54, 53, 54, 54, 54, 55, 54, 56, 54, 57, 55, 48, 55, 49, 55, 50, 55, 51, 55, 52, 55, 53, 55, 54, 55, 55, 55, 56, 55, 57, 56, 48, 56, 49, 56, 50, 56, 51, 56, 52, 56, 53, 56, 54, 56, 55, 56, 56, 56, 57, 57, 48, 57, 49, 57, 50, 57, 51, 57, 52, 57, 53, 57, 54, 57, 55, 57, 56, 57, 57]) (.t 119)),
    .o 121 (.indexAddrVs 1 (.t 110) (.t 112)),
    .n (.store 1 (.t 121) (.t 118)),
    .o 122 (.indexAddrVs 1 (.t 113) (.t 115)),
    .n (.store 1 (.t 122) (.t 120))])
  (.seq (.region true [
    .m 123 0,
    .m 124 4,
    .o 125 (.bin .sub .none (.t 124) (.i 3)),
    .m 126 0,
    .m 127 4,
    .o 128 (.bin .sub .none (.t 127) (.i 4)),
    .m 129 14,
    .o 130 (.bin .add .none (.t 129) (.const (.int .u32 1))),
    .o 131 (.indexStr (.s [48, 48, 48, 49, 48, 50, 48, 51, 48, 52, 48, 53, 48, 54, 48, 55, 48, 56, 48, 57, 49, 48, 49, 49, 49, 50, 49, 51, 49, 52, 49, 53, 49, 54, 49, 55, 49, 56, 49, 57, 50, 48, 50, 49, 50, 50, 50, 51, 50, 52, 50, 53, 50, 54, 50, 55, 50, 56, 50, 57, 51, 48, 51, 49, 51, 50, 51, 51, 51, 52, 51, 53, 51, 54, 51, 55, 51, 56, 51, 57, 52, 48, 52, 49, 52, 50, 52, 51, 52, 52, 52, 53, 52, 54, 52, 55, 52, 56, 52, 57, 53, 48, 53, 49, 53, 50, 53, 51, 53, 52, 53, 53, 53, 54, 53, 55, 53, 56, 53, 57, 54, 48, 54, 49, 54, 50, 54, 51, 54, 52, 54, 53, 54, 54, 54, 55, 54, 56, 54, 57, 55, 48, 55, 49, 55, 50, 55, 51, 55, 52, 55, 53, 55, 54, 55, 55, 55, 56, 55, 57, 56, 48, 56, 49, 56, 50, 56, 51, 56, 52, 56, 53, 56, 54, 56, 55, 56, 56, 56, 57, 57, 48, 57, 49, 57, 50, 57, 51, 57, 52, 57, 53, 57, 54, 57, 55, 57, 56, 57, 57]) (.t 130)),
    .m 132 14,
    .o 133 (.indexStr (.s [48, 48, 48, 49, 48, 50, 48, 51, 48, 52, 48, 53, 48, 54, 48, 55, 48, 56, 48, 57, 49, 48, 49, 49, 49, 50, 49, 51, 49, 52, 49, 53, 49, 54, 49, 55, 49, 56, 49, 57, 50, 48, 50, 49, 50, 50, 50, 51, 50, 52, 50, 53, 50, 54, 50, 55, 50, 56, 50, 57, 51, 48, 51, 49, 51, 50, 51, 51, 51, 52, 51, 53, 51, 54, 51, 55, 51, 56, 51, 57, 52, 48, 52, 49, 52, 50, 52, 51, 52, 52, 52, 53, 52, 54, 52, 55, 52, 56, 52, 57, 53, 48, 53, 49, 53, 50, 53, 51, 53, 52, 53, 53, 53, 54, 53, 55, 53, 56, 53, 57, 54, 48, 54, 49, 54, 50, 54, 51, 54, 52, 54, 53, 54, 54, 54, 55, 54, 56, 54, 57, 55, 48, 55, 49, 55, 50, 55, 51, 55, 52, 55, 53, 55, 54, 55, 55, 55, 56, 55, 57, 56, 48, 56, 49, 56, 50, 56, 51, 56, 52, 56, 53, 56, 54, 56, 55, 56, 56, 56, 57, 57, 48, 57, 49, 57, 50, 57, 51, 57, 52, 57, 53, 57, 54, 57, 55, 57, 56, 57, 57]) (.t 132)),
    .o 134 (.indexAddrVs 1 (.t 123) (.t 125)),
    .n (.store 1 (.t 134) (.t 131)),
    .o 135 (.indexAddrVs 1 (.t 126) (.t 128)),
    .n (.store 1 (.t 135) (.t 133))])
  (.region false [
    .m 136 4,
    .o 137 (.bin .sub .none (.t 136) (.i 4)),
    .m 4 137]))))))
  .skip))
  (.seq (.seq (.region false [
    .m 138 4,
    .o 139 (.bin .geq .none (.t 138) (.i 2))])
  (.cond (.t 139)
  (.seq (.region false [
    .m 140 12,
    .o 141 (.bin .rem .none (.t 140) (.const (.int .u32 100))),
    .o 142 (.bin .mul .none (.t 141) (.const (.int .u32 2))),
    .m 16 142])
  (.seq (.region false [
    .m 143 12,
    .o 144 (.bin .quo .none (.t 143) (.const (.int .u32 100))),
    .m 12 144])
  (.seq (.region true [
    .m 145 0,
    .m 146 4,
    .o 147 (.bin .sub .none (.t 146) (.i 1)),
    .m 148 0,
    .m 149 4,
    .o 150 (.bin .sub .none (.t 149) (.i 2)),
    .m 151 16,
    .o 152 (.bin .add .none (.t 151) (.const (.int .u32 1))),
    .o 153 (.indexStr (.s [48, 48, 48, 49, 48, 50, 48, 51, 48, 52, 48, 53, 48, 54, 48, 55, 48, 56, 48, 57, 49, 48, 49, 49, 49, 50, 49, 51, 49, 52, 49, 53, 49, 54, 49, 55, 49, 56, 49, 57, 50, 48, 50, 49, 50, 50, 50, 51, 50, 52, 50, 53, 50, 54, 50, 55, 50, 56, 50, 57, 51, 48, 51, 49, 51, 50, 51, 51, 51, 52, 51, 53, 51, 54, 51, 55, 51, 56, 51, 57, 52, 48, 52, 49, 52, 50, 52, 51, 52, 52, 52, 53, 52, 54, 52, 55, 52, 56, 52, 57, 53, 48, 53, 49, 53, 50, 53, 51, 53, 52, 53, 53, 53, 54, 53, 55, 53, 56, 53, 57, 54, 48, 54, 49, 54, 50, 54, 51, 54, 52, 54, 53, 54, 54, 54, 55, 54, 56, 54, 57, 55, 48, 55, 49, 55, 50, 55, 51, 55, 52, 55, 53, 55, 54, 55, 55, 55, 56, 55, 57, 56, 48, 56, 49, 56, 50, 56, 51, 56, 52, 56, 53, 56, 54, 56, 55, 56, 56, 56, 57, 57, 48, 57, 49, 57, 50, 57, 51, 57, 52, 57, 53, 57, 54, 57, 55, 57, 56, 57, 57]) (.t 152)),
    .m 154 16,
    .o 155 (.indexStr (.s [48, 48, 48, 49, 48, 50, 48, 51, 48, 52, 48, 53, 48, 54, 48, 55, 48, 56, 48, 57, 49, 48, 49, 49, 49, 50, 49, 51, 49, 52, 49, 53, 49, 54, 49, 55, 49, 56, 49, 57, 50, 48, 50, 49, 50, 50, 50, 51, 50, 52, 50, 53, 50, 54, 50, 55, 50, 56, 50, 57, 51, 48, 51, 49, 51, 50, 51, 51, 51, 52, 51, 53, 51, 54, 51, 55, 51, 56, 51, 57, 52, 48, 52, 49, 52, 50, 52, 51, 52, 52, 52, 53, 52, 54, 52, 55, 52, 56, 52, 57, 53, 48, 53, 49, 53, 50, 53, 51, 53, 52, 53, 53, 53, 54, 53, 55, 53, 56, 53, 57, 54, 48, 54, 49, 54, 50, 54, 51, 54, 52, 54, 53, 54, 54, 54, 55, 54, 56, 54, 57, 55, 48, 55, 49, 55, 50, 55, 51, 55, 52, 55, 53, 55, 54, 55, 55, 55, 56, 55, 57, 56, 48, 56, 49, 56, 50, 56, 51, 56, 52, 56, 53, 56, 54, 56, 55, 56, 56, 56, 57, 57, 48, 57, 49, 57, 50, 57, 51, 57, 52, 57, 53, 57, 54, 57, 55, 57, 56, 57, 57]) (.t 154)),
    .o 156 (.indexAddrVs 1 (.t 145) (.t 147)),
    .n (.store 1 (.t 156) (.t 153)),
    .o 157 (.indexAddrVs 1 (.t 148) (.t 150)),
    .n (.store 1 (.t 157) (.t 155))])
  (.region false [
    .m 158 4,
    .o 159 (.bin .sub .none (.t 158) (.i 2)),
    .m 4 159]))))
  .skip))
  (.seq (.region false [
    .m 160 4,
    .o 161 (.bin .gtr .none (.t 160) (.i 0))])
  (.cond (.t 161)
  (.region false [
    .m 162 0,
    .m 163 12,
    .o 164 (.bin .add .none (.const (.int .u32 48)) (.t 163)),
    .o 165 (.conv (.int .u8) (.t 164)),
    .o 166 (.indexAddrVs 1 (.t 162) (.i 0)),
    .n (.store 1 (.t 166) (.t 165))])
  .skip)))))))⟩
abbrev q109_0 : List Bool := [X,X,Z,X,X,Z,Z,Z,Z,Z,X,X,X,X,Z,Z,Z,Z,Z,Z,Z,Z,Z,Z,Z,Z,Z,Z,Z,Z,Z,Z,Z,Z,Z,Z,Z,Z,Z,Z,Z,Z,Z,Z,Z,Z,Z,Z,Z,Z,Z,Z,Z,Z,Z,Z,Z,Z,Z,Z,Z,Z,Z,Z,Z,Z,Z,Z,Z,Z,Z,Z,Z,Z,Z,Z,Z,Z,Z,Z,Z,Z,Z,Z,Z,Z,Z,Z,Z,Z,Z,Z,Z,Z,Z,Z,Z,Z,Z,Z,Z,Z]
abbrev q109_1 : List Bool := [X,X,Z,X,X,Z,Z,Z,Z,Z,X,X,X,X,X,X,X,Z,Z,Z,Z,Z,Z,Z,Z,Z,Z,Z,Z,Z,Z,Z,Z,Z,Z,Z,Z,Z,Z,Z,Z,Z,Z,Z,Z,Z,Z,Z,Z,Z,Z,Z,Z,Z,Z,Z,Z,Z,Z,Z,Z,Z,Z,Z,Z,Z,Z,Z,Z,Z,Z,Z,Z,Z,Z,Z,Z,Z,Z,Z,Z,Z,Z,Z,Z,Z,Z,Z,Z,Z,Z,Z,Z,Z,Z,Z,Z,Z,Z,Z,Z,Z]
def x109_1 (t0 t1 t3 t4 t10 t11 t12 t13 t14 t15 t16 : AV) : Fr := ⟨[t0,t1,J,t3,t4,J,J,J,J,J,t10,t11,t12,t13,t14,t15,t16,J,J,J,J,J,J,J,J,J,J,J,J,J,J,J,J,J,J,J,J,J,J,J,J,J,J,J,J,J,J,J,J,J,J,J,J,J,J,J,J,J,J,J,J,J,J,J,J,J,J,J,J,J,J,J,J,J,J,J,J,J,J,J,J,J,J,J,J,J,J,J,J,J,J,J,J,J,J,J,J,J,J,J,J,J], [], .call⟩
abbrev k109_0 : List Bool := [X,X,Z,X,X,Z,Z,Z,Z,Z,X,X,X,X,X,X,X,Z,Z,Z,Z,Z,Z,Z,Z,Z,Z,Z,Z,Z,Z,Z,Z,Z,Z,Z,Z,Z,Z,Z,Z,Z,Z,Z,Z,Z,Z,Z,Z,Z,Z,Z,Z,Z,Z,Z,Z,Z,Z,Z,Z,Z,Z,Z,Z,Z,Z,Z,Z,Z,Z,Z,Z,Z,Z,Z,Z,Z,Z,Z,Z,Z,Z,Z,Z,Z,Z,Z,Z,Z,Z,Z,Z,Z,Z,Z,Z,Z,Z,Z,Z,Z]
def l109_0 : SCode := (.seq (.seq (.region false [
    .m 44 1,
    .m 45 15,
    .o 46 (.bin .geq .none (.t 44) (.t 45))])
  (.cond (.t 46)
  .skip
  (.exit 0 q109_0)))
  (.block 1 q109_1
  (.seq (.region false [
    .m 47 13,
    .o 48 (.bin .sub .none (.t 47) (.i 1)),
    .m 13 48])
  (.seq (.region false [
    .m 49 13,
    .m 50 1,
    .m 51 16,
    .o 52 (.bin .and .none (.t 50) (.t 51)),
    .o 53 (.indexStr (.s [48, 49, 50, 51, 52, 53, 54, 55, 56, 57, 97, 98, 99, 100, 101, 102, 103, 104, 105, 106, 107, 108, 109, 110, 111, 112, 113, 114, 115, 116, 117, 118, 119, 120, 121, 122]) (.t 52)),
    .o 54 (.indexAddrArr 65 1 (.t 12) (.t 49)),
    .n (.store 1 (.t 54) (.t 53))])
  (.region false [
    .m 55 1,
    .m 56 14,
    .o 57 (.bin .shr .none (.t 55) (.t 56)),
    .m 1 57])))))
def s109_0 (t0 t1 t3 t4 t10 t11 t12 t13 t14 t15 t16 : AV) : Fr := ⟨[t0,t1,J,t3,t4,J,J,J,J,J,t10,t11,t12,t13,t14,t15,t16,J,J,J,J,J,J,J,J,J,J,J,J,J,J,J,J,J,J,J,J,J,J,J,J,J,J,J,J,J,J,J,J,J,J,J,J,J,J,J,J,J,J,J,J,J,J,J,J,J,J,J,J,J,J,J,J,J,J,J,J,J,J,J,J,J,J,J,J,J,J,J,J,J,J,J,J,J,J,J,J,J,J,J,J,J], [], .call⟩
def x109_0 (t0 t1 t3 t4 t10 t11 t12 t13 : AV) : Fr := ⟨[t0,t1,J,t3,t4,J,J,J,J,J,t10,t11,t12,t13,J,J,J,J,J,J,J,J,J,J,J,J,J,J,J,J,J,J,J,J,J,J,J,J,J,J,J,J,J,J,J,J,J,J,J,J,J,J,J,J,J,J,J,J,J,J,J,J,J,J,J,J,J,J,J,J,J,J,J,J,J,J,J,J,J,J,J,J,J,J,J,J,J,J,J,J,J,J,J,J,J,J,J,J,J,J,J,J], [], .call⟩
abbrev q109_2 : List Bool := [X,X,Z,X,X,Z,Z,Z,Z,Z,X,X,X,X,Z,Z,Z,Z,Z,Z,Z,Z,Z,Z,Z,Z,Z,Z,Z,Z,Z,Z,Z,Z,Z,Z,Z,Z,Z,Z,Z,Z,Z,Z,Z,Z,Z,Z,Z,Z,Z,Z,Z,Z,Z,Z,Z,Z,Z,Z,Z,Z,Z,Z,Z,Z,Z,Z,Z,Z,Z,Z,Z,Z,Z,Z,Z,Z,Z,Z,Z,Z,Z,Z,Z,Z,Z,Z,Z,Z,Z,Z,Z,Z,Z,Z,Z,Z,Z,Z,Z,Z]
abbrev q109_3 : List Bool := [X,X,Z,X,X,Z,Z,Z,Z,Z,X,X,X,X,Z,Z,Z,X,Z,Z,Z,Z,Z,Z,Z,Z,Z,Z,Z,Z,Z,Z,Z,Z,Z,Z,Z,Z,Z,Z,Z,Z,Z,Z,Z,Z,Z,Z,Z,Z,Z,Z,Z,Z,Z,Z,Z,Z,Z,Z,Z,Z,Z,Z,Z,Z,Z,Z,Z,Z,Z,Z,Z,Z,Z,Z,Z,Z,Z,Z,Z,Z,Z,Z,Z,Z,Z,Z,Z,Z,Z,Z,Z,Z,Z,Z,Z,Z,Z,Z,Z,Z]
def x109_3 (t0 t1 t3 t4 t10 t11 t12 t13 t17 : AV) : Fr := ⟨[t0,t1,J,t3,t4,J,J,J,J,J,t10,t11,t12,t13,J,J,J,t17,J,J,J,J,J,J,J,J,J,J,J,J,J,J,J,J,J,J,J,J,J,J,J,J,J,J,J,J,J,J,J,J,J,J,J,J,J,J,J,J,J,J,J,J,J,J,J,J,J,J,J,J,J,J,J,J,J,J,J,J,J,J,J,J,J,J,J,J,J,J,J,J,J,J,J,J,J,J,J,J,J,J,J,J], [], .call⟩
abbrev k109_1 : List Bool := [X,X,Z,X,X,Z,Z,Z,Z,Z,X,X,X,X,Z,Z,Z,X,Z,Z,Z,Z,Z,Z,Z,Z,Z,Z,Z,Z,Z,Z,Z,Z,Z,Z,Z,Z,Z,Z,Z,Z,Z,Z,Z,Z,Z,Z,Z,Z,Z,Z,Z,Z,Z,Z,Z,Z,Z,Z,Z,Z,Z,Z,Z,Z,Z,Z,Z,Z,Z,Z,Z,Z,Z,Z,Z,Z,Z,Z,Z,Z,Z,Z,Z,Z,Z,Z,Z,Z,Z,Z,Z,Z,Z,Z,Z,Z,Z,Z,Z,Z]
def l109_1 : SCode := (.seq (.seq (.region false [
    .m 66 1,
    .m 67 17,
    .o 68 (.bin .geq .none (.t 66) (.t 67))])
  (.cond (.t 68)
  .skip
  (.exit 2 q109_2)))
  (.block 3 q109_3
  (.seq (.region false [
    .m 69 13,
    .o 70 (.bin .sub .none (.t 69) (.i 1)),
    .m 13 70])
  (.seq (.region false [
    .m 71 1,
    .m 72 17,
    .o 73 (.bin .quo .none (.t 71) (.t 72)),
    .m 18 73])
  (.seq (.region false [
    .m 74 13,
    .m 75 1,
    .m 76 18,
    .m 77 17,
    .o 78 (.bin .mul .none (.t 76) (.t 77)),
    .o 79 (.bin .sub .none (.t 75) (.t 78)),
    .o 80 (.indexStr (.s [48, 49, 50, 51, 52, 53, 54, 55, 56, 57, 97, 98, 99, 100, 101, 102, 103, 104, 105, 106, 107, 108, 109, 110, 111, 112, 113, 114, 115, 116, 117, 118, 119, 120, 121, 122]) (.t 79)),
    .o 81 (.indexAddrArr 65 1 (.t 12) (.t 74)),
    .n (.store 1 (.t 81) (.t 80))])
  (.region false [
    .m 82 18,
    .m 1 82]))))))
def s109_1 (t0 t1 t3 t4 t10 t11 t12 t13 t17 : AV) : Fr := ⟨[t0,t1,J,t3,t4,J,J,J,J,J,t10,t11,t12,t13,J,J,J,t17,J,J,J,J,J,J,J,J,J,J,J,J,J,J,J,J,J,J,J,J,J,J,J,J,J,J,J,J,J,J,J,J,J,J,J,J,J,J,J,J,J,J,J,J,J,J,J,J,J,J,J,J,J,J,J,J,J,J,J,J,J,J,J,J,J,J,J,J,J,J,J,J,J,J,J,J,J,J,J,J,J,J,J,J], [], .call⟩
def x109_2 (t0 t1 t3 t4 t10 t11 t12 t13 : AV) : Fr := ⟨[t0,t1,J,t3,t4,J,J,J,J,J,t10,t11,t12,t13,J,J,J,J,J,J,J,J,J,J,J,J,J,J,J,J,J,J,J,J,J,J,J,J,J,J,J,J,J,J,J,J,J,J,J,J,J,J,J,J,J,J,J,J,J,J,J,J,J,J,J,J,J,J,J,J,J,J,J,J,J,J,J,J,J,J,J,J,J,J,J,J,J,J,J,J,J,J,J,J,J,J,J,J,J,J,J,J], [], .call⟩
abbrev q109 : List Bool := [Z,Z,Z,Z,Z,Z,Z,Z,Z,Z,X,X,Z,Z,Z,Z,Z,Z,Z,Z,Z,Z,Z,Z,Z,Z,Z,Z,Z,Z,Z,Z,Z,Z,Z,Z,Z,Z,Z,Z,Z,Z,Z,Z,Z,Z,Z,Z,Z,Z,Z,Z,Z,Z,Z,Z,Z,Z,Z,Z,Z,Z,Z,Z,Z,Z,Z,Z,Z,Z,Z,Z,Z,Z,Z,Z,Z,Z,Z,Z,Z,Z,Z,Z,Z,Z,Z,Z,Z,Z,Z,Z,Z,Z,Z,Z,Z,Z,Z,Z,Z,Z]
def r109 (t10 t11 : AV) : Fr := ⟨[J,J,J,J,J,J,J,J,J,J,t10,t11,J,J,J,J,J,J,J,J,J,J,J,J,J,J,J,J,J,J,J,J,J,J,J,J,J,J,J,J,J,J,J,J,J,J,J,J,J,J,J,J,J,J,J,J,J,J,J,J,J,J,J,J,J,J,J,J,J,J,J,J,J,J,J,J,J,J,J,J,J,J,J,J,J,J,J,J,J,J,J,J,J,J,J,J,J,J,J,J,J,J], [], .call⟩
/-- internal/strconv.formatBits -/
def f109 : SFunc := ⟨.closed, 102, [(.tmp 10), (.tmp 11)],
  (.seq (.region false [
    .o 10 (.mov (.const .nils)),
    .o 11 (.mov (.s []))])
  (.seq (.seq (.region false [
    .m 19 2,
    .o 20 (.bin .lss .none (.t 19) (.i 2)),
    .m 21 20,
    .gm 22 21 false 2,
    .g 23 21 false (.bin .eql .none (.t 22) (.i 10)),
    .o 24 (.pick (.t 21) (.b true) (.t 23)),
    .m 25 24,
    .gm 26 25 false 2,
    .g 27 25 false (.bin .gtr .none (.t 26) (.i 36)),
    .o 28 (.pick (.t 25) (.b true) (.t 27))])
  (.cond (.t 28)
  (.region false [
    .o 29 (.mkIface 4 (.s [115, 116, 114, 99, 111, 110, 118, 58, 32, 105, 108, 108, 101, 103, 97, 108, 32, 65, 112, 112, 101, 110, 100, 73, 110, 116, 47, 70, 111, 114, 109, 97, 116, 73, 110, 116, 32, 98, 97, 115, 101])),
    .n (.panic (.t 29))])
  .skip))
  (.seq (.region false [
    .o 12 (.alloc [(.int .u8 0), (.int .u8 0), (.int .u8 0), (.int .u8 0), (.int .u8 0), (.int .u8 0), (.int .u8 0), (.int .u8 0), (.int .u8 0), (.int .u8 0), (.int .u8 0), (.int .u8 0), (.int .u8 0), (.int .u8 0), (.int .u8 0), (.int .u8 0), (.int .u8 0), (.int .u8 0), (.int .u8 0), (.int .u8 0), (.int .u8 0), (.int .u8 0), (.int .u8 0), (.int .u8 0), (.int .u8 0), (.int .u8 0), (.int .u8 0), (.int .u8 0), (.int .u8 0), (.int .u8 0), (.int .u8 0), (.int .u8 0), (.int .u8 0), (.int .u8 0), (.int .u8 0), (.int .u8 0), (.int .u8 0), (.int .u8 0), (.int .u8 0), (.int .u8 0), (.int .u8 0), (.int .u8 0), (.int .u8 0), (.int .u8 0), (.int .u8 0), (.int .u8 0), (.int .u8 0), (.int .u8 0), (.int .u8 0), (.int .u8 0), (.int .u8 0), (.int .u8 0), (.int .u8 0), (.int .u8 0), (.int .u8 0), (.int .u8 0), (.int .u8 0), (.int .u8 0), (.int .u8 0), (.int .u8 0), (.int .u8 0), (.int .u8 0), (.int .u8 0), (.int .u8 0), (.int .u8 0)])])
  (.seq (.region false [
    .o 13 (.mov (.i 65))])
  (.seq (.seq (.region false [
    .m 30 3])
  (.cond (.t 30)
  (.region false [
    .m 31 1,
    .o 32 (.un .neg (.t 31)),
    .m 1 32])
  .skip))
  (.seq (.seq (.region false [
    .m 33 2,
    .o 34 (.call (.f 113) [(.t 33)])])
  (.cond (.t 34)
  (.seq (.region false [
    .m 35 2,
    .o 36 (.conv (.int .u64) (.t 35)),
    .o 37 (.call (.f 114) [(.t 36)]),
    .o 38 (.conv (.int .u64) (.t 37)),
    .m 14 38])
  (.seq (.region false [
    .m 39 2,
    .o 40 (.conv (.int .u64) (.t 39)),
    .m 15 40])
  (.seq (.region false [
    .m 41 2,
    .o 42 (.conv (.int .u64) (.t 41)),
    .o 43 (.bin .sub .none (.t 42) (.const (.int .u64 1))),
    .m 16 43])
  (.seq (.block 0 q109_0
  (.loop k109_0 l109_0))
  (.seq (.region false [
    .m 58 13,
    .o 59 (.bin .sub .none (.t 58) (.i 1)),
    .m 13 59])
  (.region false [
    .m 60 13,
    .m 61 1,
    .o 62 (.indexStr (.s [48, 49, 50, 51, 52, 53, 54, 55, 56, 57, 97, 98, 99, 100, 101, 102, 103, 104, 105, 106, 107, 108, 109, 110, 111, 112, 113, 114, 115, 116, 117, 118, 119, 120, 121, 122]) (.t 61)),
    .o 63 (.indexAddrArr 65 1 (.t 12) (.t 60)),
    .n (.store 1 (.t 63) (.t 62))]))))))
  (.seq (.region false [
    .m 64 2,
    .o 65 (.conv (.int .u64) (.t 64)),
    .m 17 65])
  (.seq (.block 2 q109_2
  (.loop k109_1 l109_1))
  (.seq (.region false [
    .m 83 13,
    .o 84 (.bin .sub .none (.t 83) (.i 1)),
    .m 13 84])
  (.region false [
    .m 85 13,
    .m 86 1,
    .o 87 (.indexStr (.s [48, 49, 50, 51, 52, 53, 54, 55, 56, 57, 97, 98, 99, 100, 101, 102, 103, 104, 105, 106, 107, 108, 109, 110, 111, 112, 113, 114, 115, 116, 117, 118, 119, 120, 121, 122]) (.t 86)),
    .o 88 (.indexAddrArr 65 1 (.t 12) (.t 85)),
    .n (.store 1 (.t 88) (.t 87))]))))))
  (.seq (.seq (.region false [
    .m 89 3])
  (.cond (.t 89)
  (.seq (.region false [
    .m 90 13,
    .o 91 (.bin .sub .none (.t 90) (.i 1)),
    .m 13 91])
  (.region false [
    .m 92 13,
    .o 93 (.indexAddrArr 65 1 (.t 12) (.t 92)),
    .n (.store 1 (.t 93) (.const (.int .u8 45)))]))
  .skip))
  (.seq (.seq (.region false [
    .m 94 4])
  (.cond (.t 94)
  (.seq (.region false [
    .m 95 0,
    .m 96 13,
    .o 97 (.sliceArr 65 1 (.t 12) (some (.t 96)) none),
    .o 98 (.append 1 1 (.t 95) (.t 97)),
    .m 10 98])
  (.ret q109))
  .skip))
  (.seq (.region false [
    .m 99 13,
    .o 100 (.sliceArr 65 1 (.t 12) (some (.t 99)) none),
    .o 101 (.conv .toStr (.t 100)),
    .m 11 101])
  (.ret q109))))))))))⟩
abbrev q110 : List Bool := [Z,Z,X,Z,Z,Z]
def r110 (t2 : AV) : Fr := ⟨[J,J,t2,J,J,J], [], .call⟩
/-- internal/strconv.log10Pow2 -/
def f110 : SFunc := ⟨.closed, 6, [(.tmp 2)],
  (.seq (.region false [
    .o 2 (.mov (.i 0))])
  (.seq (.region false [
    .m 3 0,
    .o 4 (.bin .mul .none (.t 3) (.i 78913)),
    .o 5 (.bin .shr .none (.t 4) (.const (.int .u64 18))),
    .m 2 5])
  (.ret q110)))⟩
abbrev q111 : List Bool := [Z,Z,X,Z,Z,Z,Z,Z,Z,Z,Z,Z,Z,Z,Z,Z,Z,Z,Z,Z,Z,Z,Z,Z,Z]
def r111 (t2 : AV) : Fr := ⟨[J,J,t2,J,J,J,J,J,J,J,J,J,J,J,J,J,J,J,J,J,J,J,J,J,J], [], .call⟩
/-- math/bits.Len64 -/
def f111 : SFunc := ⟨.closed, 25, [(.tmp 2)],
  (.seq (.region false [
    .o 2 (.mov (.i 0))])
  (.seq (.seq (.region false [
    .m 3 0,
    .o 4 (.bin .geq .none (.t 3) (.const (.int .u64 4294967296)))])
  (.cond (.t 4)
  (.seq (.region false [
    .m 5 0,
    .o 6 (.bin .shr .none (.t 5) (.const (.int .u64 32))),
    .m 0 6])
  (.region false [
    .o 2 (.mov (.i 32))]))
  .skip))
  (.seq (.seq (.region false [
    .m 7 0,
    .o 8 (.bin .geq .none (.t 7) (.const (.int .u64 65536)))])
  (.cond (.t 8)
  (.seq (.region false [
    .m 9 0,
    .o 10 (.bin .shr .none (.t 9) (.const (.int .u64 16))),
    .m 0 10])
  (.region false [
    .m 11 2,
    .o 12 (.bin .add .none (.t 11) (.i 16)),
    .m 2 12]))
  .skip))
  (.seq (.seq (.region false [
    .m 13 0,
    .o 14 (.bin .geq .none (.t 13) (.const (.int .u64 256)))])
  (.cond (.t 14)
  (.seq (.region false [
    .m 15 0,
    .o 16 (.bin .shr .none (.t 15) (.const (.int .u64 8))),
    .m 0 16])
  (.region false [
    .m 17 2,
    .o 18 (.bin .add .none (.t 17) (.i 8)),
    .m 2 18]))
  .skip))
  (.seq (.region false [
    .m 19 2,
    .m 20 0,
    .o 21 (.conv (.int .u8) (.t 20)),
    .o 22 (.indexStr (.s [0, 1, 2, 2, 3, 3, 3, 3, 4, 4, 4, 4, 4, 4, 4, 4, 5, 5, 5, 5, 5, 5, 5, 5, 5, 5, 5, 5, 5, 5, 5, 5, 6, 6, 6, 6, 6, 6, 6, 6, 6, 6, 6, 6, 6, 6, 6, 6, 6, 6, 6, 6, 6, 6, 6, 6, 6, 6, 6, 6, 6, 6, 6, 6, 7, 7, 7, 7, 7, 7, 7, 7, 7, 7, 7, 7, 7, 7, 7, 7, 7, 7, 7, 7, 7, 7, 7, 7, 7, 7, 7, 7, 7, 7, 7, 7, 7, 7, 7, 7, 7, 7, 7, 7, 7, 7, 7, 7, 7, 7, 7, 7, 7, 7, 7, 7, 7, 7, 7, 7, 7, 7, 7, 7, 7, 7, 7, 7, 8, 8, 8, 8, 8, 8, 8, 8, 8, 8, 8, 8, 8, 8, 8, 8, 8, 8, 8, 8, 8, 8, 8, 8, 8, 8, 8, 8, 8, 8, 8, 8, 8, 8, 8, 8, 8, 8, 8, 8, 8, 8, 8, 8, 8, 8, 8, 8, 8, 8, 8, 8, 8, 8, 8, 8, 8, 8, 8, 8, 8, 8, 8, 8, 8, 8, 8, 8, 8, 8, 8, 8, 8, 8, 8, 8, 8, 8, 8, 8, 8, 8, 8, 8, 8, 8, 8, 8, 8, 8, 8, 8, 8, 8, 8, 8, 8, 8, 8, 8, 8, 8, 8, 8, 8, 8, 8, 8, 8, 8, 8, 8, 8, 8, 8, 8, 8, 8, 8, 8, 8, 8, 8, 8, 8, 8, 8, 8]) (.t 21)),
    .o 23 (.conv (.int .i64) (.t 22)),
    .o 24 (.bin .add .none (.t 19) (.t 23)),
    .m 2 24])
  (.ret q111))))))⟩
abbrev q112 : List Bool := [Z,Z,X,Z]
def r112 (t2 : AV) : Fr := ⟨[J,J,t2,J], [], .call⟩
/-- internal/strconv.bool2[int] -/
def f112 : SFunc := ⟨.closed, 4, [(.tmp 2)],
  (.seq (.region false [
    .o 2 (.mov (.i 0))])
  (.seq (.seq (.region false [
    .m 3 0])
  (.cond (.t 3)
  (.seq (.region false [
    .o 2 (.mov (.i 1))])
  (.ret q112))
  .skip))
  (.seq (.region false [
    .o 2 (.mov (.i 0))])
  (.ret q112))))⟩
abbrev q113 : List Bool := [Z,Z,X,Z,Z,Z,Z,Z]
def r113 (t2 : AV) : Fr := ⟨[J,J,t2,J,J,J,J,J], [], .call⟩
/-- internal/strconv.isPowerOfTwo -/
def f113 : SFunc := ⟨.closed, 8, [(.tmp 2)],
  (.seq (.region false [
    .o 2 (.mov (.b false))])
  (.seq (.region false [
    .m 3 0,
    .m 4 0,
    .o 5 (.bin .sub .none (.t 4) (.i 1)),
    .o 6 (.bin .and .none (.t 3) (.t 5)),
    .o 7 (.bin .eql .none (.t 6) (.i 0)),
    .m 2 7])
  (.ret q113)))⟩
abbrev q114 : List Bool := [Z,Z,X,Z,Z,Z,Z,Z]
def r114 (t2 : AV) : Fr := ⟨[J,J,t2,J,J,J,J,J], [], .call⟩
/-- math/bits.TrailingZeros -/
def f114 : SFunc := ⟨.closed, 8, [(.tmp 2)],
  (.seq (.region false [
    .o 2 (.mov (.i 0))])
  (.seq (.cond (.b false)
  (.seq (.region false [
    .m 3 0,
    .o 4 (.conv (.int .u32) (.t 3)),
    .o 5 (.call (.f 115) [(.t 4)]),
    .m 2 5])
  (.ret q114))
  .skip)
  (.seq (.region false [
    .m 6 0,
    .o 7 (.call (.f 116) [(.t 6)]),
    .m 2 7])
  (.ret q114))))⟩
abbrev q115 : List Bool := [Z,Z,X,Z,Z,Z,Z,Z,Z,Z,Z,Z,Z,Z]
def r115 (t2 : AV) : Fr := ⟨[J,J,t2,J,J,J,J,J,J,J,J,J,J,J], [], .call⟩
/-- math/bits.TrailingZeros32 -/
def f115 : SFunc := ⟨.closed, 14, [(.tmp 2)],
  (.seq (.region false [
    .o 2 (.mov (.i 0))])
  (.seq (.seq (.region false [
    .m 3 0,
    .o 4 (.bin .eql .none (.t 3) (.const (.int .u32 0)))])
  (.cond (.t 4)
  (.seq (.region false [
    .o 2 (.mov (.i 32))])
  (.ret q115))
  .skip))
  (.seq (.region false [
    .m 5 0,
    .m 6 0,
    .o 7 (.un .neg (.t 6)),
    .o 8 (.bin .and .none (.t 5) (.t 7)),
    .o 9 (.bin .mul .none (.t 8) (.const (.int .u32 125613361))),
    .o 10 (.bin .shr .none (.t 9) (.const (.int .u64 27))),
    .o 11 (.indexAddrArr 32 1 (.glob 6) (.t 10)),
    .o 12 (.load false 1 (.t 11)),
    .o 13 (.conv (.int .i64) (.t 12)),
    .m 2 13])
  (.ret q115))))⟩
abbrev q116 : List Bool := [Z,Z,X,Z,Z,Z,Z,Z,Z,Z,Z,Z,Z,Z]
def r116 (t2 : AV) : Fr := ⟨[J,J,t2,J,J,J,J,J,J,J,J,J,J,J], [], .call⟩
/-- math/bits.TrailingZeros64 -/
def f116 : SFunc := ⟨.closed, 14, [(.tmp 2)],
  (.seq (.region false [
    .o 2 (.mov (.i 0))])
  (.seq (.seq (.region false [
    .m 3 0,
    .o 4 (.bin .eql .none (.t 3) (.const (.int .u64 0)))])
  (.cond (.t 4)
  (.seq (.region false [
    .o 2 (.mov (.i 64))])
  (.ret q116))
  .skip))
  (.seq (.region false [
    .m 5 0,
    .m 6 0,
    .o 7 (.un .neg (.t 6)),
    .o 8 (.bin .and .none (.t 5) (.t 7)),
    .o 9 (.bin .mul .none (.t 8) (.const (.int .u64 285870213051353865))),
    .o 10 (.bin .shr .none (.t 9) (.const (.int .u64 58))),
    .o 11 (.indexAddrArr 64 1 (.glob 7) (.t 10)),
    .o 12 (.load false 1 (.t 11)),
    .o 13 (.conv (.int .i64) (.t 12)),
    .m 2 13])
  (.ret q116))))⟩
abbrev q164_0 : List Bool := [Z,Z,Z,Z,X,X,Z,Z,Z,Z,Z,Z,Z,Z,Z,Z,Z,Z,Z,Z,Z,Z,Z,Z,Z,Z,Z,Z,Z,Z,Z,Z,Z,Z,Z,Z]
abbrev q164 : List Bool := [Z,Z,Z,Z,X,Z,Z,Z,Z,Z,Z,Z,Z,Z,Z,Z,Z,Z,Z,Z,Z,Z,Z,Z,Z,Z,Z,Z,Z,Z,Z,Z,Z,Z,Z,Z]
def r164 (t4 : AV) : Fr := ⟨[J,J,J,J,t4,J,J,J,J,J,J,J,J,J,J,J,J,J,J,J,J,J,J,J,J,J,J,J,J,J,J,J,J,J,J,J], [], .call⟩
abbrev q164_1 : List Bool := [X,X,Z,Z,X,X,Z,Z,Z,Z,Z,Z,Z,Z,Z,Z,Z,Z,Z,Z,Z,Z,Z,Z,Z,Z,Z,Z,Z,Z,Z,Z,Z,Z,Z,Z]
def x164_1 (t0 t1 t4 t5 : AV) : Fr := ⟨[t0,t1,J,J,t4,t5,J,J,J,J,J,J,J,J,J,J,J,J,J,J,J,J,J,J,J,J,J,J,J,J,J,J,J,J,J,J], [], .call⟩
abbrev k164_0 : List Bool := [X,X,Z,Z,X,X,Z,Z,Z,Z,Z,Z,Z,Z,Z,Z,Z,Z,Z,Z,Z,Z,Z,Z,Z,Z,Z,Z,Z,Z,Z,Z,Z,Z,Z,Z]
def l164_0 : SCode := (.seq (.seq (.region false [
    .o 8 (.fieldAddr 1 (.t 5)),
    .o 9 (.load false 1 (.t 8)),
    .m 10 1,
    .o 11 (.len .str (.t 10)),
    .o 12 (.bin .lss .none (.t 9) (.t 11))])
  (.cond (.t 12)
  .skip
  (.exit 0 q164_0)))
  (.block 1 q164_1
  (.seq (.region false [
    .m 13 0,
    .m 14 1,
    .o 15 (.fieldAddr 1 (.t 5)),
    .o 16 (.load false 1 (.t 15)),
    .o 17 (.call (.f 176) [(.t 13), (.t 14), (.t 16)]),
    .o 6 (.alloc [(.int .i64 0), (.int .i64 0), (.str []), (.int .i64 0), (.int .i64 0)]),
    .n (.store 5 (.t 6) (.t 17))])
  (.seq (.seq (.region false [
    .o 18 (.fieldAddr 4 (.t 6)),
    .o 19 (.load false 1 (.t 18)),
    .o 20 (.bin .eql .none (.t 19) (.i 0))])
  (.cond (.t 20)
  (.seq (.region false [
    .o 21 (.load true 2 (.t 5)),
    .n (.store 2 (.t 4) (.t 21))])
  (.ret q164))
  .skip))
  (.seq (.region false [
    .o 22 (.fieldAddr 0 (.t 5)),
    .o 23 (.load false 1 (.t 22)),
    .o 24 (.fieldAddr 0 (.t 6)),
    .o 25 (.load true 4 (.t 24)),
    .o 26 (.buildSlice 1 [(.int .i64 0), (.int .i64 0), (.str []), (.int .i64 0)] [(0, 4, (.t 25))]),
    .o 27 (.append 4 40 (.t 23) (.t 26)),
    .o 28 (.fieldAddr 0 (.t 5)),
    .n (.store 1 (.t 28) (.t 27))])
  (.region false [
    .o 29 (.fieldAddr 1 (.t 5)),
    .o 30 (.load false 1 (.t 29)),
    .o 31 (.fieldAddr 4 (.t 6)),
    .o 32 (.load false 1 (.t 31)),
    .o 33 (.bin .add .none (.t 30) (.t 32)),
    .o 34 (.fieldAddr 1 (.t 5)),
    .n (.store 1 (.t 34) (.t 33))]))))))
def s164_0 (t0 t1 t4 t5 : AV) : Fr := ⟨[t0,t1,J,J,t4,t5,J,J,J,J,J,J,J,J,J,J,J,J,J,J,J,J,J,J,J,J,J,J,J,J,J,J,J,J,J,J], [], .call⟩
def x164_0 (t4 t5 : AV) : Fr := ⟨[J,J,J,J,t4,t5,J,J,J,J,J,J,J,J,J,J,J,J,J,J,J,J,J,J,J,J,J,J,J,J,J,J,J,J,J,J], [], .call⟩
/-- drachm/drachmref08.Each -/
def f164 : SFunc := ⟨.open_, 36, [(.cell 4 true 2)],
  (.seq (.region false [
    .o 4 (.alloc [.nils, (.int .i64 0)])])
  (.seq (.region false [
    .o 7 (.build [.nils, (.int .i64 0)] []),
    .o 5 (.alloc [.nils, (.int .i64 0)]),
    .n (.store 2 (.t 5) (.t 7))])
  (.seq (.block 0 q164_0
  (.loop k164_0 l164_0))
  (.seq (.region false [
    .o 35 (.load true 2 (.t 5)),
    .n (.store 2 (.t 4) (.t 35))])
  (.ret q164)))))⟩
abbrev q165_0 : List Bool := [Z,Z,Z,Z,Z,Z,X,Z,Z,Z,Z,Z,Z,Z,Z,Z,Z,Z,Z,Z,Z,Z,Z,Z,Z,Z,Z,Z,Z,Z,Z,Z,Z,Z,Z,Z,Z,Z,Z,Z,Z,Z,Z,Z,Z,Z,Z]
abbrev q165_1 : List Bool := [Z,X,Z,Z,Z,X,X,X,Z,Z,Z,Z,Z,Z,Z,Z,Z,Z,Z,Z,Z,Z,Z,Z,Z,Z,Z,Z,Z,Z,Z,Z,Z,Z,Z,Z,Z,Z,Z,Z,Z,Z,Z,Z,Z,Z,Z]
def x165_1 (t1 t5 t6 t7 : AV) : Fr := ⟨[J,t1,J,J,J,t5,t6,t7,J,J,J,J,J,J,J,J,J,J,J,J,J,J,J,J,J,J,J,J,J,J,J,J,J,J,J,J,J,J,J,J,J,J,J,J,J,J,J], [], .call⟩
abbrev k165_0 : List Bool := [Z,X,Z,Z,Z,X,X,X,Z,Z,Z,Z,Z,Z,Z,Z,Z,Z,Z,Z,Z,Z,Z,Z,Z,Z,Z,Z,Z,Z,Z,Z,Z,Z,Z,Z,Z,Z,Z,Z,Z,Z,Z,Z,Z,Z,Z]
def l165_0 : SCode := (.seq (.seq (.region false [
    .m 10 7,
    .m 11 1,
    .o 12 (.len .slc (.t 11)),
    .o 13 (.bin .lss .none (.t 10) (.t 12))])
  (.cond (.t 13)
  .skip
  (.exit 0 q165_0)))
  (.seq (.block 1 q165_1
  (.seq (.region false [
    .m 16 1,
    .m 17 7,
    .o 18 (.indexAddrVs 4 (.t 16) (.t 17)),
    .o 19 (.fieldAddr 0 (.t 18)),
    .o 20 (.load false 1 (.t 19)),
    .o 21 (.bin .eql .none (.t 20) (.i 9))])
  (.cond (.t 21)
  (.region true [
    .m 22 6,
    .o 23 (.fieldAddr 4 (.t 5)),
    .o 24 (.load false 1 (.t 23)),
    .o 25 (.buildSlice 1 [(.int .u8 0)] [(0, 1, (.t 24))]),
    .o 26 (.conv .toStr (.t 25)),
    .o 27 (.bin .add .none (.t 22) (.t 26)),
    .m 28 1,
    .m 29 7,
    .o 30 (.indexAddrVs 4 (.t 28) (.t 29)),
    .o 31 (.fieldAddr 2 (.t 30)),
    .o 32 (.load false 1 (.t 31)),
    .o 33 (.bin .add .none (.t 27) (.t 32)),
    .o 34 (.fieldAddr 5 (.t 5)),
    .o 35 (.load false 1 (.t 34)),
    .o 36 (.buildSlice 1 [(.int .u8 0)] [(0, 1, (.t 35))]),
    .o 37 (.conv .toStr (.t 36)),
    .o 38 (.bin .add .none (.t 33) (.t 37)),
    .m 6 38])
  (.region false [
    .m 39 6,
    .m 40 1,
    .m 41 7,
    .o 42 (.indexAddrVs 4 (.t 40) (.t 41)),
    .o 43 (.fieldAddr 2 (.t 42)),
    .o 44 (.load false 1 (.t 43)),
    .o 45 (.bin .add .none (.t 39) (.t 44)),
    .m 6 45]))))
  (.region false [
    .m 14 7,
    .o 15 (.bin .add .none (.t 14) (.i 1)),
    .m 7 15])))
def s165_0 (t1 t5 t6 t7 : AV) : Fr := ⟨[J,t1,J,J,J,t5,t6,t7,J,J,J,J,J,J,J,J,J,J,J,J,J,J,J,J,J,J,J,J,J,J,J,J,J,J,J,J,J,J,J,J,J,J,J,J,J,J,J], [], .call⟩
def x165_0 (t6 : AV) : Fr := ⟨[J,J,J,J,J,J,t6,J,J,J,J,J,J,J,J,J,J,J,J,J,J,J,J,J,J,J,J,J,J,J,J,J,J,J,J,J,J,J,J,J,J,J,J,J,J,J,J], [], .call⟩
abbrev q165 : List Bool := [Z,Z,Z,Z,X,Z,Z,Z,Z,Z,Z,Z,Z,Z,Z,Z,Z,Z,Z,Z,Z,Z,Z,Z,Z,Z,Z,Z,Z,Z,Z,Z,Z,Z,Z,Z,Z,Z,Z,Z,Z,Z,Z,Z,Z,Z,Z]
def r165 (t4 : AV) : Fr := ⟨[J,J,J,J,t4,J,J,J,J,J,J,J,J,J,J,J,J,J,J,J,J,J,J,J,J,J,J,J,J,J,J,J,J,J,J,J,J,J,J,J,J,J,J,J,J,J,J], [], .call⟩
/-- drachm/drachmref08.Join -/
def f165 : SFunc := ⟨.closed, 47, [(.tmp 4)],
  (.seq (.region false [
    .o 4 (.mov (.s []))])
  (.seq (.region false [
    .m 8 0,
    .o 9 (.call (.f 19) [(.t 8)]),
    .o 5 (.alloc [(.bool false), (.int .u8 0), (.int .u8 0), (.int .u8 0), (.int .u8 0), (.int .u8 0)]),
    .n (.store 6 (.t 5) (.t 9))])
  (.seq (.region false [
    .o 6 (.mov (.s []))])
  (.seq (.seq (.region false [
    .o 7 (.mov (.i 0))])
  (.block 0 q165_0
  (.loop k165_0 l165_0)))
  (.seq (.region false [
    .m 46 6,
    .m 4 46])
  (.ret q165))))))⟩
abbrev q172_0 : List Bool := [Z,Z,Z,Z,Z,X,Z,Z,Z,Z,Z,Z,Z,Z,Z,Z,Z,Z,Z,Z,Z,Z,Z,Z,Z,Z,Z,Z,Z,Z,Z,Z,Z,Z,Z,Z,Z,Z,Z,Z,Z,Z,Z,Z]
abbrev q172 : List Bool := [Z,Z,Z,Z,X,Z,Z,Z,Z,Z,Z,Z,Z,Z,Z,Z,Z,Z,Z,Z,Z,Z,Z,Z,Z,Z,Z,Z,Z,Z,Z,Z,Z,Z,Z,Z,Z,Z,Z,Z,Z,Z,Z,Z]
def r172 (t4 : AV) : Fr := ⟨[J,J,J,J,t4,J,J,J,J,J,J,J,J,J,J,J,J,J,J,J,J,J,J,J,J,J,J,J,J,J,J,J,J,J,J,J,J,J,J,J,J,J,J,J], [], .call⟩
abbrev q172_1 : List Bool := [Z,X,Z,Z,Z,X,X,Z,Z,Z,Z,Z,Z,Z,Z,Z,Z,Z,Z,Z,Z,Z,Z,Z,Z,Z,Z,Z,Z,Z,Z,Z,Z,Z,Z,Z,Z,Z,Z,Z,Z,Z,Z,Z]
def x172_1 (t1 t5 t6 : AV) : Fr := ⟨[J,t1,J,J,J,t5,t6,J,J,J,J,J,J,J,J,J,J,J,J,J,J,J,J,J,J,J,J,J,J,J,J,J,J,J,J,J,J,J,J,J,J,J,J,J], [], .call⟩
abbrev k172_0 : List Bool := [Z,X,Z,Z,Z,X,X,Z,Z,Z,Z,Z,Z,Z,Z,Z,Z,Z,Z,Z,Z,Z,Z,Z,Z,Z,Z,Z,Z,Z,Z,Z,Z,Z,Z,Z,Z,Z,Z,Z,Z,Z,Z,Z]
def l172_0 : SCode := (.seq (.seq (.region false [
    .m 9 6,
    .m 10 1,
    .o 11 (.len .str (.t 10)),
    .o 12 (.bin .lss .none (.t 9) (.t 11))])
  (.cond (.t 12)
  .skip
  (.exit 0 q172_0)))
  (.seq (.block 1 q172_1
  (.seq (.region true [
    .m 15 1,
    .m 16 6,
    .o 17 (.indexStr (.t 15) (.t 16)),
    .o 18 (.bin .lss .none (.t 17) (.const (.int .u8 32))),
    .m 19 18,
    .gm 20 19 false 1,
    .gm 21 19 false 6,
    .g 22 19 false (.indexStr (.t 20) (.t 21)),
    .g 23 19 false (.bin .gtr .none (.t 22) (.const (.int .u8 126))),
    .o 24 (.pick (.t 19) (.b true) (.t 23)),
    .m 25 24,
    .gm 26 25 false 1,
    .gm 27 25 false 6,
    .g 28 25 false (.indexStr (.t 26) (.t 27)),
    .g 29 25 false (.fieldAddr 4 (.t 5)),
    .g 30 25 false (.load false 1 (.t 29)),
    .g 31 25 false (.bin .eql .none (.t 28) (.t 30)),
    .o 32 (.pick (.t 25) (.b true) (.t 31)),
    .m 33 32,
    .gm 34 33 false 1,
    .gm 35 33 false 6,
    .g 36 33 false (.indexStr (.t 34) (.t 35)),
    .g 37 33 false (.fieldAddr 5 (.t 5)),
    .g 38 33 false (.load false 1 (.t 37)),
    .g 39 33 false (.bin .eql .none (.t 36) (.t 38)),
    .o 40 (.pick (.t 33) (.b true) (.t 39))])
  (.cond (.t 40)
  (.seq (.region false [
    .o 4 (.mov (.b false))])
  (.ret q172))
  .skip)))
  (.region false [
    .m 13 6,
    .o 14 (.bin .add .none (.t 13) (.i 1)),
    .m 6 14])))
def s172_0 (t1 t5 t6 : AV) : Fr := ⟨[J,t1,J,J,J,t5,t6,J,J,J,J,J,J,J,J,J,J,J,J,J,J,J,J,J,J,J,J,J,J,J,J,J,J,J,J,J,J,J,J,J,J,J,J,J], [], .call⟩
def x172_0 (t5 : AV) : Fr := ⟨[J,J,J,J,J,t5,J,J,J,J,J,J,J,J,J,J,J,J,J,J,J,J,J,J,J,J,J,J,J,J,J,J,J,J,J,J,J,J,J,J,J,J,J,J], [], .call⟩
/-- drachm/drachmref07.Plain -/
def f172 : SFunc := ⟨.closed, 44, [(.tmp 4)],
  (.seq (.region false [
    .o 4 (.mov (.b false))])
  (.seq (.region false [
    .m 7 0,
    .o 8 (.call (.f 19) [(.t 7)]),
    .o 5 (.alloc [(.bool false), (.int .u8 0), (.int .u8 0), (.int .u8 0), (.int .u8 0), (.int .u8 0)]),
    .n (.store 6 (.t 5) (.t 8))])
  (.seq (.seq (.region false [
    .o 6 (.mov (.i 0))])
  (.block 0 q172_0
  (.loop k172_0 l172_0)))
  (.seq (.region false [
    .o 41 (.fieldAddr 4 (.t 5)),
    .o 42 (.load false 1 (.t 41)),
    .o 43 (.bin .neq .none (.t 42) (.const (.int .u8 0))),
    .m 4 43])
  (.ret q172)))))⟩
abbrev q176 : List Bool := [Z,Z,Z,Z,Z,Z,X,Z,Z,Z,Z,Z,Z,Z,Z,Z,Z,Z,Z,Z,Z,Z,Z,Z,Z,Z,Z,Z,Z,Z,Z,Z,Z,Z,Z,Z,Z,Z,Z,Z,Z,Z,Z,Z,Z,Z,Z,Z,Z,Z,Z,Z,Z,Z,Z,Z,Z,Z,Z,Z,Z,Z,Z,Z,Z,Z,Z,Z,Z,Z,Z,Z,Z,Z,Z,Z,Z,Z,Z,Z,Z,Z,Z,Z,Z]
def r176 (t6 : AV) : Fr := ⟨[J,J,J,J,J,J,t6,J,J,J,J,J,J,J,J,J,J,J,J,J,J,J,J,J,J,J,J,J,J,J,J,J,J,J,J,J,J,J,J,J,J,J,J,J,J,J,J,J,J,J,J,J,J,J,J,J,J,J,J,J,J,J,J,J,J,J,J,J,J,J,J,J,J,J,J,J,J,J,J,J,J,J,J,J,J], [], .call⟩
abbrev q176_0 : List Bool := [X,X,X,Z,Z,Z,X,Z,Z,Z,Z,Z,Z,Z,Z,Z,Z,Z,Z,Z,Z,Z,Z,Z,Z,Z,Z,Z,Z,Z,Z,Z,Z,Z,Z,Z,Z,Z,Z,Z,Z,Z,Z,Z,Z,Z,Z,Z,Z,Z,Z,Z,Z,Z,Z,Z,Z,Z,Z,Z,Z,Z,Z,Z,Z,Z,Z,Z,Z,Z,Z,Z,Z,Z,Z,Z,Z,Z,Z,Z,Z,Z,Z,Z,Z]
def x176_0 (t0 t1 t2 t6 : AV) : Fr := ⟨[t0,t1,t2,J,J,J,t6,J,J,J,J,J,J,J,J,J,J,J,J,J,J,J,J,J,J,J,J,J,J,J,J,J,J,J,J,J,J,J,J,J,J,J,J,J,J,J,J,J,J,J,J,J,J,J,J,J,J,J,J,J,J,J,J,J,J,J,J,J,J,J,J,J,J,J,J,J,J,J,J,J,J,J,J,J,J], [], .call⟩
/-- drachm/drachmref08.Next -/
def f176 : SFunc := ⟨.closed, 85, [(.cell 6 true 5)],
  (.seq (.region false [
    .o 6 (.alloc [(.int .i64 0), (.int .i64 0), (.str []), (.int .i64 0), (.int .i64 0)])])
  (.seq (.seq (.region false [
    .m 10 0,
    .m 11 1,
    .m 12 2,
    .o 13 (.indexStr (.t 11) (.t 12)),
    .o 14 (.call (.f 193) [(.t 10), (.t 13)])])
  (.block 0 q176_0
  (.seq (.seq (.region false [
    .o 16 (.bin .eql .none (.t 14) (.i 0)),
    .m 15 16])
  (.cond (.t 15)
  .skip
  (.region false [
    .o 17 (.bin .eql .none (.t 14) (.i 10)),
    .m 15 17])))
  (.cond (.t 15)
  (.seq (.region false [
    .o 18 (.build [(.int .i64 0), (.int .i64 0), (.str []), (.int .i64 0), (.int .i64 0)] []),
    .n (.store 5 (.t 6) (.t 18))])
  (.ret q176))
  (.seq (.region false [
    .o 20 (.bin .eql .none (.t 14) (.i 1)),
    .m 19 20])
  (.cond (.t 19)
  (.seq (.region false [
    .m 21 0,
    .m 22 1,
    .m 23 2,
    .o 24 (.call (.f 194) [(.t 21), (.t 22), (.t 23), (.i 1)]),
    .m 7 24])
  (.seq (.region false [
    .m 25 2,
    .m 26 0,
    .m 27 1,
    .m 28 2,
    .m 29 2,
    .m 30 7,
    .o 31 (.bin .add .none (.t 29) (.t 30)),
    .o 32 (.sliceStr (.t 27) (some (.t 28)) (some (.t 31))),
    .o 33 (.call (.f 195) [(.t 26), (.t 32)]),
    .o 34 (.build [(.int .i64 0), (.int .i64 0), (.str []), (.int .i64 0)] [(0, 1, (.i 1)), (1, 1, (.t 25)), (2, 1, (.t 33))]),
    .m 35 7,
    .o 36 (.build [(.int .i64 0), (.int .i64 0), (.str []), (.int .i64 0), (.int .i64 0)] [(0, 4, (.t 34)), (4, 1, (.t 35))]),
    .n (.store 5 (.t 6) (.t 36))])
  (.ret q176)))
  (.seq (.region false [
    .o 38 (.bin .eql .none (.t 14) (.i 2)),
    .m 37 38])
  (.cond (.t 37)
  (.seq (.region false [
    .m 39 0,
    .m 40 1,
    .m 41 2,
    .o 42 (.call (.f 194) [(.t 39), (.t 40), (.t 41), (.i 2)]),
    .m 8 42])
  (.seq (.region false [
    .m 43 1,
    .m 44 2,
    .m 45 2,
    .m 46 8,
    .o 47 (.bin .add .none (.t 45) (.t 46)),
    .o 48 (.sliceStr (.t 43) (some (.t 44)) (some (.t 47))),
    .o 49 (.call (.f 196) [(.t 48)]),
    .o 9 (.alloc [(.int .i64 0), (.bool false)]),
    .n (.store 2 (.t 9) (.t 49))])
  (.seq (.seq (.region false [
    .o 50 (.fieldAddr 1 (.t 9)),
    .o 51 (.load false 1 (.t 50)),
    .o 52 (.un .not (.t 51))])
  (.cond (.t 52)
  (.seq (.region false [
    .o 53 (.build [(.int .i64 0), (.int .i64 0), (.str []), (.int .i64 0), (.int .i64 0)] []),
    .n (.store 5 (.t 6) (.t 53))])
  (.ret q176))
  .skip))
  (.seq (.region true [
    .m 54 2,
    .m 55 1,
    .m 56 2,
    .m 57 2,
    .m 58 8,
    .o 59 (.bin .add .none (.t 57) (.t 58)),
    .o 60 (.sliceStr (.t 55) (some (.t 56)) (some (.t 59))),
    .o 61 (.fieldAddr 0 (.t 9)),
    .o 62 (.load false 1 (.t 61)),
    .o 63 (.build [(.int .i64 0), (.int .i64 0), (.str []), (.int .i64 0)] [(0, 1, (.i 2)), (1, 1, (.t 54)), (2, 1, (.t 60)), (3, 1, (.t 62))]),
    .m 64 8,
    .o 65 (.build [(.int .i64 0), (.int .i64 0), (.str []), (.int .i64 0), (.int .i64 0)] [(0, 4, (.t 63)), (4, 1, (.t 64))]),
    .n (.store 5 (.t 6) (.t 65))])
  (.ret q176)))))
  (.seq (.region false [
    .o 67 (.bin .eql .none (.t 14) (.i 9)),
    .m 66 67])
  (.cond (.t 66)
  (.seq (.region false [
    .m 68 0,
    .m 69 1,
    .m 70 2,
    .o 71 (.call (.f 197) [(.t 68), (.t 69), (.t 70)]),
    .n (.store 5 (.t 6) (.t 71))])
  (.ret q176))
  .skip))))))))))
  (.seq (.region true [
    .m 72 0,
    .m 73 1,
    .m 74 2,
    .o 75 (.indexStr (.t 73) (.t 74)),
    .o 76 (.call (.f 193) [(.t 72), (.t 75)]),
    .m 77 2,
    .m 78 1,
    .m 79 2,
    .m 80 2,
    .o 81 (.bin .add .none (.t 80) (.i 1)),
    .o 82 (.sliceStr (.t 78) (some (.t 79)) (some (.t 81))),
    .o 83 (.build [(.int .i64 0), (.int .i64 0), (.str []), (.int .i64 0)] [(0, 1, (.t 76)), (1, 1, (.t 77)), (2, 1, (.t 82))]),
    .o 84 (.build [(.int .i64 0), (.int .i64 0), (.str []), (.int .i64 0), (.int .i64 0)] [(0, 4, (.t 83)), (4, 1, (.i 1))]),
    .n (.store 5 (.t 6) (.t 84))])
  (.ret q176))))⟩
abbrev q193 : List Bool := [Z,Z,Z,Z,X,Z,Z,Z,Z,Z,Z,Z,Z,Z,Z,Z,Z,Z,Z,Z,Z,Z,Z,Z,Z,Z,Z,Z,Z,Z,Z,Z,Z,Z,Z,Z,Z,Z,Z,Z,Z,Z,Z,Z,Z,Z,Z,Z,Z,Z,Z,Z,Z,Z,Z,Z,Z,Z,Z,Z,Z,Z,Z,Z,Z,Z,Z,Z,Z,Z,Z,Z,Z,Z,Z,Z,Z,Z,Z,Z,Z,Z,Z]
def r193 (t4 : AV) : Fr := ⟨[J,J,J,J,t4,J,J,J,J,J,J,J,J,J,J,J,J,J,J,J,J,J,J,J,J,J,J,J,J,J,J,J,J,J,J,J,J,J,J,J,J,J,J,J,J,J,J,J,J,J,J,J,J,J,J,J,J,J,J,J,J,J,J,J,J,J,J,J,J,J,J,J,J,J,J,J,J,J,J,J,J,J,J], [], .call⟩
abbrev q193_0 : List Bool := [Z,Z,Z,Z,Z,Z,Z,Z,Z,Z,Z,Z,Z,Z,Z,Z,Z,Z,Z,Z,Z,Z,Z,Z,Z,Z,Z,Z,Z,Z,Z,Z,Z,Z,Z,Z,Z,Z,Z,Z,Z,Z,Z,Z,Z,Z,Z,Z,Z,Z,Z,Z,Z,Z,Z,Z,Z,Z,Z,Z,Z,Z,Z,Z,Z,Z,Z,Z,Z,Z,Z,Z,Z,Z,Z,Z,Z,Z,Z,Z,Z,Z,Z]
def x193_0 : Fr := ⟨[J,J,J,J,J,J,J,J,J,J,J,J,J,J,J,J,J,J,J,J,J,J,J,J,J,J,J,J,J,J,J,J,J,J,J,J,J,J,J,J,J,J,J,J,J,J,J,J,J,J,J,J,J,J,J,J,J,J,J,J,J,J,J,J,J,J,J,J,J,J,J,J,J,J,J,J,J,J,J,J,J,J,J], [], .call⟩
/-- drachm/drachmref07.Kind -/
def f193 : SFunc := ⟨.closed, 83, [(.tmp 4)],
  (.seq (.region false [
    .o 4 (.mov (.i 0))])
  (.seq (.region false [
    .m 6 0,
    .o 7 (.call (.f 19) [(.t 6)]),
    .o 5 (.alloc [(.bool false), (.int .u8 0), (.int .u8 0), (.int .u8 0), (.int .u8 0), (.int .u8 0)]),
    .n (.store 6 (.t 5) (.t 7))])
  (.seq (.seq (.region false [
    .o 8 (.fieldAddr 1 (.t 5)),
    .o 9 (.load false 1 (.t 8)),
    .o 10 (.bin .eql .none (.t 9) (.const (.int .u8 0))),
    .m 11 10,
    .gm 12 11 false 1,
    .g 13 11 false (.bin .eql .none (.t 12) (.const (.int .u8 0))),
    .o 14 (.pick (.t 11) (.b true) (.t 13))])
  (.cond (.t 14)
  (.seq (.region false [
    .o 4 (.mov (.i 0))])
  (.ret q193))
  .skip))
  (.seq (.seq (.region false [
    .m 15 1,
    .o 16 (.bin .geq .none (.t 15) (.const (.int .u8 97))),
    .m 17 16,
    .gm 18 17 true 1,
    .g 19 17 true (.bin .leq .none (.t 18) (.const (.int .u8 122))),
    .o 20 (.pick (.t 17) (.t 19) (.b false)),
    .m 21 20,
    .gm 22 21 false 1,
    .g 23 21 false (.bin .geq .none (.t 22) (.const (.int .u8 65))),
    .gm 24 21 false 23,
    .gm 25 24 true 1,
    .g 26 24 true (.bin .leq .none (.t 25) (.const (.int .u8 90))),
    .g 27 21 false (.pick (.t 24) (.t 26) (.b false)),
    .o 28 (.pick (.t 21) (.b true) (.t 27)),
    .m 29 28,
    .gm 30 29 false 1,
    .g 31 29 false (.bin .eql .none (.t 30) (.const (.int .u8 37))),
    .o 32 (.pick (.t 29) (.b true) (.t 31)),
    .m 33 32,
    .gm 34 33 false 1,
    .g 35 33 false (.bin .eql .none (.t 34) (.const (.int .u8 39))),
    .o 36 (.pick (.t 33) (.b true) (.t 35)),
    .m 37 36,
    .gm 38 37 false 1,
    .g 39 37 false (.bin .eql .none (.t 38) (.const (.int .u8 95))),
    .o 40 (.pick (.t 37) (.b true) (.t 39)),
    .m 41 40,
    .gm 42 41 false 1,
    .g 43 41 false (.bin .eql .none (.t 42) (.const (.int .u8 91))),
    .o 44 (.pick (.t 41) (.b true) (.t 43)),
    .m 45 44,
    .gm 46 45 false 1,
    .g 47 45 false (.bin .eql .none (.t 46) (.const (.int .u8 93))),
    .o 48 (.pick (.t 45) (.b true) (.t 47))])
  (.cond (.t 48)
  (.seq (.region false [
    .o 4 (.mov (.i 1))])
  (.ret q193))
  .skip))
  (.seq (.seq (.region false [
    .m 49 1,
    .o 50 (.bin .geq .none (.t 49) (.const (.int .u8 48))),
    .m 51 50,
    .gm 52 51 true 1,
    .g 53 51 true (.bin .leq .none (.t 52) (.const (.int .u8 57))),
    .o 54 (.pick (.t 51) (.t 53) (.b false))])
  (.cond (.t 54)
  (.seq (.region false [
    .o 4 (.mov (.i 2))])
  (.ret q193))
  .skip))
  (.seq (.seq (.region false [
    .m 55 1])
  (.block 0 q193_0
  (.seq (.seq (.region false [
    .o 57 (.bin .eql .none (.t 55) (.const (.int .u8 43))),
    .m 56 57])
  (.cond (.t 56)
  .skip
  (.region false [
    .o 58 (.bin .eql .none (.t 55) (.const (.int .u8 45))),
    .m 56 58])))
  (.cond (.t 56)
  (.seq (.region false [
    .o 4 (.mov (.i 3))])
  (.ret q193))
  (.seq (.region false [
    .o 60 (.bin .eql .none (.t 55) (.const (.int .u8 40))),
    .m 59 60])
  (.cond (.t 59)
  (.seq (.region false [
    .o 4 (.mov (.i 7))])
  (.ret q193))
  (.seq (.region false [
    .o 62 (.bin .eql .none (.t 55) (.const (.int .u8 41))),
    .m 61 62])
  (.cond (.t 61)
  (.seq (.region false [
    .o 4 (.mov (.i 8))])
  (.ret q193))
  (.seq (.region false [
    .o 64 (.fieldAddr 1 (.t 5)),
    .o 65 (.load false 1 (.t 64)),
    .o 66 (.bin .eql .none (.t 55) (.t 65)),
    .m 63 66])
  (.cond (.t 63)
  (.seq (.region false [
    .o 4 (.mov (.i 4))])
  (.ret q193))
  (.seq (.region false [
    .o 68 (.fieldAddr 2 (.t 5)),
    .o 69 (.load false 1 (.t 68)),
    .o 70 (.bin .eql .none (.t 55) (.t 69)),
    .m 67 70])
  (.cond (.t 67)
  (.seq (.region false [
    .o 4 (.mov (.i 5))])
  (.ret q193))
  (.seq (.region false [
    .o 72 (.fieldAddr 3 (.t 5)),
    .o 73 (.load false 1 (.t 72)),
    .o 74 (.bin .eql .none (.t 55) (.t 73)),
    .m 71 74])
  (.cond (.t 71)
  (.seq (.region false [
    .o 4 (.mov (.i 6))])
  (.ret q193))
  (.seq (.region false [
    .o 76 (.fieldAddr 4 (.t 5)),
    .o 77 (.load false 1 (.t 76)),
    .o 78 (.bin .eql .none (.t 55) (.t 77)),
    .m 75 78])
  (.cond (.t 75)
  (.seq (.region false [
    .o 4 (.mov (.i 9))])
  (.ret q193))
  (.seq (.region false [
    .o 80 (.fieldAddr 5 (.t 5)),
    .o 81 (.load false 1 (.t 80)),
    .o 82 (.bin .eql .none (.t 55) (.t 81)),
    .m 79 82])
  (.cond (.t 79)
  (.seq (.region false [
    .o 4 (.mov (.i 10))])
  (.ret q193))
  .skip))))))))))))))))))
  (.seq (.region false [
    .o 4 (.mov (.i 0))])
  (.ret q193))))))))⟩
abbrev q194_0 : List Bool := [Z,Z,Z,Z,Z,Z,Z,Z,Z,X,Z,Z,Z,Z,Z,Z,Z,Z,Z,Z,Z,Z,Z,Z,Z,Z,Z,Z,Z,Z]
abbrev q194_1 : List Bool := [X,X,X,X,Z,Z,Z,Z,Z,X,Z,Z,Z,Z,Z,Z,Z,Z,Z,Z,Z,Z,Z,Z,Z,Z,Z,Z,Z,Z]
def x194_1 (t0 t1 t2 t3 t9 : AV) : Fr := ⟨[t0,t1,t2,t3,J,J,J,J,J,t9,J,J,J,J,J,J,J,J,J,J,J,J,J,J,J,J,J,J,J,J], [], .call⟩
abbrev k194_0 : List Bool := [X,X,X,X,Z,Z,Z,Z,Z,X,Z,Z,Z,Z,Z,Z,Z,Z,Z,Z,Z,Z,Z,Z,Z,Z,Z,Z,Z,Z]
def l194_0 : SCode := (.seq (.seq (.region false [
    .m 10 2,
    .m 11 9,
    .o 12 (.bin .add .none (.t 10) (.t 11)),
    .m 13 1,
    .o 14 (.len .str (.t 13)),
    .o 15 (.bin .lss .none (.t 12) (.t 14)),
    .m 16 15,
    .gm 17 16 true 0,
    .gm 18 16 true 1,
    .gm 19 16 true 2,
    .gm 20 16 true 9,
    .g 21 16 true (.bin .add .none (.t 19) (.t 20)),
    .g 22 16 true (.indexStr (.t 18) (.t 21)),
    .g 23 16 true (.call (.f 193) [(.t 17), (.t 22)]),
    .gm 24 16 true 3,
    .g 25 16 true (.bin .eql .none (.t 23) (.t 24)),
    .o 26 (.pick (.t 16) (.t 25) (.b false))])
  (.cond (.t 26)
  .skip
  (.exit 0 q194_0)))
  (.block 1 q194_1
  (.region false [
    .m 27 9,
    .o 28 (.bin .add .none (.t 27) (.i 1)),
    .m 9 28])))
def s194_0 (t0 t1 t2 t3 t9 : AV) : Fr := ⟨[t0,t1,t2,t3,J,J,J,J,J,t9,J,J,J,J,J,J,J,J,J,J,J,J,J,J,J,J,J,J,J,J], [], .call⟩
def x194_0 (t9 : AV) : Fr := ⟨[J,J,J,J,J,J,J,J,J,t9,J,J,J,J,J,J,J,J,J,J,J,J,J,J,J,J,J,J,J,J], [], .call⟩
abbrev q194 : List Bool := [Z,Z,Z,Z,Z,Z,Z,Z,X,Z,Z,Z,Z,Z,Z,Z,Z,Z,Z,Z,Z,Z,Z,Z,Z,Z,Z,Z,Z,Z]
def r194 (t8 : AV) : Fr := ⟨[J,J,J,J,J,J,J,J,t8,J,J,J,J,J,J,J,J,J,J,J,J,J,J,J,J,J,J,J,J,J], [], .call⟩
/-- drachm/drachmref08.goes -/
def f194 : SFunc := ⟨.closed, 30, [(.tmp 8)],
  (.seq (.region false [
    .o 8 (.mov (.i 0))])
  (.seq (.region false [
    .o 9 (.mov (.i 0))])
  (.seq (.block 0 q194_0
  (.loop k194_0 l194_0))
  (.seq (.region false [
    .m 29 9,
    .m 8 29])
  (.ret q194)))))⟩
abbrev q195_0 : List Bool := [Z,Z,Z,Z,Z,Z,X,Z,Z,Z,Z,Z,Z,Z,Z,Z,Z,Z,Z,Z,Z,Z,Z,Z,Z,Z,Z,Z,Z,Z,Z,Z,Z,Z,Z,Z,Z,Z]
abbrev q195_1 : List Bool := [Z,X,Z,Z,Z,X,X,X,Z,Z,Z,Z,Z,Z,Z,Z,Z,Z,Z,Z,Z,Z,Z,Z,Z,Z,Z,Z,Z,Z,Z,Z,Z,Z,Z,Z,Z,Z]
def x195_1 (t1 t5 t6 t7 : AV) : Fr := ⟨[J,t1,J,J,J,t5,t6,t7,J,J,J,J,J,J,J,J,J,J,J,J,J,J,J,J,J,J,J,J,J,J,J,J,J,J,J,J,J,J], [], .call⟩
abbrev k195_0 : List Bool := [Z,X,Z,Z,Z,X,X,X,Z,Z,Z,Z,Z,Z,Z,Z,Z,Z,Z,Z,Z,Z,Z,Z,Z,Z,Z,Z,Z,Z,Z,Z,Z,Z,Z,Z,Z,Z]
def l195_0 : SCode := (.seq (.seq (.region false [
    .m 12 7,
    .m 13 1,
    .o 14 (.len .str (.t 13)),
    .o 15 (.bin .lss .none (.t 12) (.t 14))])
  (.cond (.t 15)
  .skip
  (.exit 0 q195_0)))
  (.seq (.block 1 q195_1
  (.seq (.region false [
    .m 18 1,
    .m 19 7,
    .o 20 (.indexStr (.t 18) (.t 19)),
    .m 8 20])
  (.seq (.seq (.region false [
    .m 21 5,
    .m 22 21,
    .gm 23 22 true 8,
    .g 24 22 true (.bin .geq .none (.t 23) (.const (.int .u8 97))),
    .o 25 (.pick (.t 22) (.t 24) (.b false)),
    .m 26 25,
    .gm 27 26 true 8,
    .g 28 26 true (.bin .leq .none (.t 27) (.const (.int .u8 122))),
    .o 29 (.pick (.t 26) (.t 28) (.b false))])
  (.cond (.t 29)
  (.region false [
    .m 30 8,
    .o 31 (.bin .sub .none (.t 30) (.const (.int .u8 32))),
    .m 8 31])
  .skip))
  (.region false [
    .m 32 6,
    .m 33 8,
    .o 34 (.buildSlice 1 [(.int .u8 0)] [(0, 1, (.t 33))]),
    .o 35 (.conv .toStr (.t 34)),
    .o 36 (.bin .add .none (.t 32) (.t 35)),
    .m 6 36]))))
  (.region false [
    .m 16 7,
    .o 17 (.bin .add .none (.t 16) (.i 1)),
    .m 7 17])))
def s195_0 (t1 t5 t6 t7 : AV) : Fr := ⟨[J,t1,J,J,J,t5,t6,t7,J,J,J,J,J,J,J,J,J,J,J,J,J,J,J,J,J,J,J,J,J,J,J,J,J,J,J,J,J,J], [], .call⟩
def x195_0 (t6 : AV) : Fr := ⟨[J,J,J,J,J,J,t6,J,J,J,J,J,J,J,J,J,J,J,J,J,J,J,J,J,J,J,J,J,J,J,J,J,J,J,J,J,J,J], [], .call⟩
abbrev q195 : List Bool := [Z,Z,Z,Z,X,Z,Z,Z,Z,Z,Z,Z,Z,Z,Z,Z,Z,Z,Z,Z,Z,Z,Z,Z,Z,Z,Z,Z,Z,Z,Z,Z,Z,Z,Z,Z,Z,Z]
def r195 (t4 : AV) : Fr := ⟨[J,J,J,J,t4,J,J,J,J,J,J,J,J,J,J,J,J,J,J,J,J,J,J,J,J,J,J,J,J,J,J,J,J,J,J,J,J,J], [], .call⟩
/-- drachm/drachmref07.Raise -/
def f195 : SFunc := ⟨.closed, 38, [(.tmp 4)],
  (.seq (.region false [
    .o 4 (.mov (.s []))])
  (.seq (.region false [
    .m 9 0,
    .o 10 (.call (.f 19) [(.t 9)]),
    .o 11 (.field false 0 1 (.t 10)),
    .m 5 11])
  (.seq (.region false [
    .o 6 (.mov (.s []))])
  (.seq (.seq (.region false [
    .o 7 (.mov (.i 0))])
  (.block 0 q195_0
  (.loop k195_0 l195_0)))
  (.seq (.region false [
    .m 37 6,
    .m 4 37])
  (.ret q195))))))⟩
abbrev q196_0 : List Bool := [Z,Z,X,X,Z,Z,Z,Z,Z,Z,Z,Z,Z,Z,Z,Z,Z,Z,Z,Z,Z,Z,Z,Z,Z,Z,Z,Z,Z]
abbrev q196 : List Bool := [Z,Z,X,Z,Z,Z,Z,Z,Z,Z,Z,Z,Z,Z,Z,Z,Z,Z,Z,Z,Z,Z,Z,Z,Z,Z,Z,Z,Z]
def r196 (t2 : AV) : Fr := ⟨[J,J,t2,J,J,J,J,J,J,J,J,J,J,J,J,J,J,J,J,J,J,J,J,J,J,J,J,J,J], [], .call⟩
abbrev q196_1 : List Bool := [X,Z,X,X,X,Z,Z,Z,Z,Z,Z,Z,Z,Z,Z,Z,Z,Z,Z,Z,Z,Z,Z,Z,Z,Z,Z,Z,Z]
def x196_1 (t0 t2 t3 t4 : AV) : Fr := ⟨[t0,J,t2,t3,t4,J,J,J,J,J,J,J,J,J,J,J,J,J,J,J,J,J,J,J,J,J,J,J,J], [], .call⟩
abbrev k196_0 : List Bool := [X,Z,X,X,X,Z,Z,Z,Z,Z,Z,Z,Z,Z,Z,Z,Z,Z,Z,Z,Z,Z,Z,Z,Z,Z,Z,Z,Z]
def l196_0 : SCode := (.seq (.seq (.region false [
    .m 6 4,
    .m 7 0,
    .o 8 (.len .str (.t 7)),
    .o 9 (.bin .lss .none (.t 6) (.t 8))])
  (.cond (.t 9)
  .skip
  (.exit 0 q196_0)))
  (.seq (.block 1 q196_1
  (.seq (.region false [
    .m 12 0,
    .m 13 4,
    .o 14 (.indexStr (.t 12) (.t 13)),
    .o 15 (.bin .sub .none (.t 14) (.const (.int .u8 48))),
    .o 16 (.conv (.int .i64) (.t 15)),
    .m 5 16])
  (.seq (.seq (.region false [
    .m 17 3,
    .m 18 5,
    .o 19 (.bin .sub .none (.i 9223372036854775807) (.t 18)),
    .o 20 (.bin .quo .none (.t 19) (.i 10)),
    .o 21 (.bin .gtr .none (.t 17) (.t 20))])
  (.cond (.t 21)
  (.seq (.region false [
    .o 22 (.build [(.int .i64 0), (.bool false)] []),
    .n (.store 2 (.t 2) (.t 22))])
  (.ret q196))
  .skip))
  (.region false [
    .m 23 3,
    .o 24 (.bin .mul .none (.t 23) (.i 10)),
    .m 25 5,
    .o 26 (.bin .add .none (.t 24) (.t 25)),
    .m 3 26]))))
  (.region false [
    .m 10 4,
    .o 11 (.bin .add .none (.t 10) (.i 1)),
    .m 4 11])))
def s196_0 (t0 t2 t3 t4 : AV) : Fr := ⟨[t0,J,t2,t3,t4,J,J,J,J,J,J,J,J,J,J,J,J,J,J,J,J,J,J,J,J,J,J,J,J], [], .call⟩
def x196_0 (t2 t3 : AV) : Fr := ⟨[J,J,t2,t3,J,J,J,J,J,J,J,J,J,J,J,J,J,J,J,J,J,J,J,J,J,J,J,J,J], [], .call⟩
/-- drachm/drachmref08.number -/
def f196 : SFunc := ⟨.closed, 29, [(.cell 2 true 2)],
  (.seq (.region false [
    .o 2 (.alloc [(.int .i64 0), (.bool false)])])
  (.seq (.region false [
    .o 3 (.mov (.i 0))])
  (.seq (.seq (.region false [
    .o 4 (.mov (.i 0))])
  (.block 0 q196_0
  (.loop k196_0 l196_0)))
  (.seq (.region false [
    .m 27 3,
    .o 28 (.build [(.int .i64 0), (.bool false)] [(0, 1, (.t 27)), (1, 1, (.b true))]),
    .n (.store 2 (.t 2) (.t 28))])
  (.ret q196)))))⟩
abbrev q197_0 : List Bool := [X,X,X,Z,Z,Z,X,X,Z,Z,Z,Z,Z,Z,Z,Z,Z,Z,Z,Z,Z,Z,Z,Z,Z,Z,Z,Z,Z,Z,Z,Z,Z,Z,Z,Z,Z,Z,Z,Z,Z,Z,Z,Z,Z,Z,Z,Z,Z,Z,Z]
abbrev q197_1 : List Bool := [X,X,X,Z,Z,Z,X,X,Z,Z,Z,Z,Z,Z,Z,Z,Z,Z,Z,Z,Z,Z,Z,Z,Z,Z,Z,Z,Z,Z,Z,Z,Z,Z,Z,Z,Z,Z,Z,Z,Z,Z,Z,Z,Z,Z,Z,Z,Z,Z,Z]
def x197_1 (t0 t1 t2 t6 t7 : AV) : Fr := ⟨[t0,t1,t2,J,J,J,t6,t7,J,J,J,J,J,J,J,J,J,J,J,J,J,J,J,J,J,J,J,J,J,J,J,J,J,J,J,J,J,J,J,J,J,J,J,J,J,J,J,J,J,J,J], [], .call⟩
abbrev k197_0 : List Bool := [X,X,X,Z,Z,Z,X,X,Z,Z,Z,Z,Z,Z,Z,Z,Z,Z,Z,Z,Z,Z,Z,Z,Z,Z,Z,Z,Z,Z,Z,Z,Z,Z,Z,Z,Z,Z,Z,Z,Z,Z,Z,Z,Z,Z,Z,Z,Z,Z,Z]
def l197_0 : SCode := (.seq (.seq (.region true [
    .m 12 7,
    .m 13 1,
    .o 14 (.len .str (.t 13)),
    .o 15 (.bin .lss .none (.t 12) (.t 14)),
    .m 16 15,
    .gm 17 16 true 1,
    .gm 18 16 true 7,
    .g 19 16 true (.indexStr (.t 17) (.t 18)),
    .gm 20 16 true 0,
    .g 21 16 true (.call (.f 19) [(.t 20)]),
    .g 22 16 true (.field false 5 1 (.t 21)),
    .g 23 16 true (.bin .neq .none (.t 19) (.t 22)),
    .o 24 (.pick (.t 16) (.t 23) (.b false))])
  (.cond (.t 24)
  .skip
  (.exit 0 q197_0)))
  (.block 1 q197_1
  (.region false [
    .m 25 7,
    .o 26 (.bin .add .none (.t 25) (.i 1)),
    .m 7 26])))
def s197_0 (t0 t1 t2 t6 t7 : AV) : Fr := ⟨[t0,t1,t2,J,J,J,t6,t7,J,J,J,J,J,J,J,J,J,J,J,J,J,J,J,J,J,J,J,J,J,J,J,J,J,J,J,J,J,J,J,J,J,J,J,J,J,J,J,J,J,J,J], [], .call⟩
def x197_0 (t0 t1 t2 t6 t7 : AV) : Fr := ⟨[t0,t1,t2,J,J,J,t6,t7,J,J,J,J,J,J,J,J,J,J,J,J,J,J,J,J,J,J,J,J,J,J,J,J,J,J,J,J,J,J,J,J,J,J,J,J,J,J,J,J,J,J,J], [], .call⟩
abbrev q197 : List Bool := [Z,Z,Z,Z,Z,Z,X,Z,Z,Z,Z,Z,Z,Z,Z,Z,Z,Z,Z,Z,Z,Z,Z,Z,Z,Z,Z,Z,Z,Z,Z,Z,Z,Z,Z,Z,Z,Z,Z,Z,Z,Z,Z,Z,Z,Z,Z,Z,Z,Z,Z]
def r197 (t6 : AV) : Fr := ⟨[J,J,J,J,J,J,t6,J,J,J,J,J,J,J,J,J,J,J,J,J,J,J,J,J,J,J,J,J,J,J,J,J,J,J,J,J,J,J,J,J,J,J,J,J,J,J,J,J,J,J,J], [], .call⟩
/-- drachm/drachmref08.note -/
def f197 : SFunc := ⟨.closed, 51, [(.cell 6 true 5)],
  (.seq (.region false [
    .o 6 (.alloc [(.int .i64 0), (.int .i64 0), (.str []), (.int .i64 0), (.int .i64 0)])])
  (.seq (.region false [
    .m 10 2,
    .o 11 (.bin .add .none (.t 10) (.i 1)),
    .m 7 11])
  (.seq (.block 0 q197_0
  (.loop k197_0 l197_0))
  (.seq (.seq (.region false [
    .m 27 7,
    .m 28 1,
    .o 29 (.len .str (.t 28)),
    .o 30 (.bin .geq .none (.t 27) (.t 29))])
  (.cond (.t 30)
  (.seq (.region false [
    .o 31 (.build [(.int .i64 0), (.int .i64 0), (.str []), (.int .i64 0), (.int .i64 0)] []),
    .n (.store 5 (.t 6) (.t 31))])
  (.ret q197))
  .skip))
  (.seq (.region false [
    .m 32 1,
    .m 33 2,
    .o 34 (.bin .add .none (.t 33) (.i 1)),
    .m 35 7,
    .o 36 (.sliceStr (.t 32) (some (.t 34)) (some (.t 35))),
    .m 8 36])
  (.seq (.region false [
    .m 37 0,
    .m 38 8,
    .o 39 (.call (.f 172) [(.t 37), (.t 38)]),
    .m 9 39])
  (.seq (.seq (.region false [
    .m 40 9,
    .o 41 (.un .not (.t 40))])
  (.cond (.t 41)
  (.seq (.region false [
    .o 42 (.build [(.int .i64 0), (.int .i64 0), (.str []), (.int .i64 0), (.int .i64 0)] []),
    .n (.store 5 (.t 6) (.t 42))])
  (.ret q197))
  .skip))
  (.seq (.region false [
    .m 43 2,
    .m 44 8,
    .o 45 (.build [(.int .i64 0), (.int .i64 0), (.str []), (.int .i64 0)] [(0, 1, (.i 9)), (1, 1, (.t 43)), (2, 1, (.t 44))]),
    .m 46 7,
    .o 47 (.bin .add .none (.t 46) (.i 1)),
    .m 48 2,
    .o 49 (.bin .sub .none (.t 47) (.t 48)),
    .o 50 (.build [(.int .i64 0), (.int .i64 0), (.str []), (.int .i64 0), (.int .i64 0)] [(0, 4, (.t 45)), (4, 1, (.t 49))]),
    .n (.store 5 (.t 6) (.t 50))])
  (.ret q197)))))))))⟩
abbrev q217 : List Bool := [Z,Z,Z,Z,X,Z,Z,Z,Z,Z,Z,Z,Z,Z,Z,Z]
def r217 (t4 : AV) : Fr := ⟨[J,J,J,J,t4,J,J,J,J,J,J,J,J,J,J,J], [], .call⟩
/-- drachm/drachmref10.Find -/
def f217 : SFunc := ⟨.closed, 16, [(.cell 4 true 3)],
  (.seq (.region false [
    .o 4 (.alloc [(.int .i64 0), (.int .i64 0), (.bool false)])])
  (.seq (.seq (.region false [
    .m 5 0,
    .o 6 (.bin .lss .none (.t 5) (.i 1)),
    .m 7 6,
    .gm 8 7 false 0,
    .g 9 7 false (.bin .gtr .none (.t 8) (.i 5)),
    .o 10 (.pick (.t 7) (.b true) (.t 9))])
  (.cond (.t 10)
  (.seq (.region false [
    .o 11 (.build [(.int .i64 0), (.int .i64 0), (.bool false)] [(0, 1, (.i (-1))), (1, 1, (.i (-1)))]),
    .n (.store 3 (.t 4) (.t 11))])
  (.ret q217))
  .skip))
  (.seq (.region false [
    .o 12 (.call (.f 51) []),
    .m 13 0,
    .m 14 1,
    .o 15 (.call (.f 74) [(.t 12), (.t 13), (.t 14)]),
    .n (.store 3 (.t 4) (.t 15))])
  (.ret q217))))⟩
end Go.Pv
/- What the program's package-level variables hold. Conditions: none; definitions. -/
namespace Go.Pv
/-- drachm/atoms.prefixes -/
def g0 : List AV := [.str [89], .str [89, 65], .str [89], .str [], .str [89], .int .i64 24, .str [90], .str [90, 65], .str [90], .str [], .str [90], .int .i64 21, .str [69], .str [69, 88], .str [69], .str [69], .str [69], .int .i64 18, .str [80], .str [80, 84], .str [80], .str [80, 69], .str [80], .int .i64 15, .str [84], .str [84, 82], .str [84], .str [84], .str [84], .int .i64 12, .str [71], .str [71, 65], .str [71], .str [71], .str [71], .int .i64 9, .str [77], .str [77, 65], .str [77], .str [77, 65], .str [77], .int .i64 6, .str [107], .str [75], .str [107], .str [75], .str [107], .int .i64 3, .str [104], .str [72], .str [104], .str [72], .str [104], .int .i64 2, .str [100, 97], .str [68, 65], .str [100, 97], .str [68, 65], .str [100, 97], .int .i64 1, .str [100], .str [68], .str [100], .str [68], .str [100], .int .i64 (-1), .str [99], .str [67], .str [99], .str [67], .str [99], .int .i64 (-2), .str [109], .str [77], .str [109], .str [77], .str [109], .int .i64 (-3), .str [117], .str [85], .str [117], .str [85], .str [117], .int .i64 (-6), .str [110], .str [78], .str [110], .str [78], .str [110], .int .i64 (-9), .str [112], .str [80], .str [112], .str [80], .str [112], .int .i64 (-12), .str [102], .str [70], .str [102], .str [70], .str [102], .int .i64 (-15), .str [97], .str [65], .str [97], .str [65], .str [97], .int .i64 (-18), .str [122], .str [90, 79], .str [122], .str [], .str [122], .int .i64 (-21), .str [121], .str [89, 79], .str [121], .str [], .str [121], .int .i64 (-24)]
/-- drachm/style.styles -/
def g1 : List AV := [.bool false, .int .u8 46, .int .u8 47, .int .u8 0, .int .u8 123, .int .u8 125, .bool true, .int .u8 46, .int .u8 47, .int .u8 0, .int .u8 123, .int .u8 125, .bool false, .int .u8 42, .int .u8 47, .int .u8 94, .int .u8 60, .int .u8 62, .bool true, .int .u8 46, .int .u8 47, .int .u8 0, .int .u8 0, .int .u8 0, .bool false, .int .u8 46, .int .u8 47, .int .u8 94, .int .u8 0, .int .u8 0]
/-- strconv.ErrSyntax -/
def g2 : List AV := [.iface 3 (.pin [.str [105, 110, 118, 97, 108, 105, 100, 32, 115, 121, 110, 116, 97, 120]])]
/-- strconv.ErrRange -/
def g3 : List AV := [.iface 3 (.pin [.str [118, 97, 108, 117, 101, 32, 111, 117, 116, 32, 111, 102, 32, 114, 97, 110, 103, 101]])]
/-- internal/strconv.uint64pow10 -/
def g5 : List AV := [.int .u64 1, .int .u64 10, .int .u64 100, .int .u64 1000, .int .u64 10000, .int .u64 100000, .int .u64 1000000, .int .u64 10000000, .int .u64 100000000, .int .u64 1000000000, .int .u64 10000000000, .int .u64 100000000000, .int .u64 1000000000000, .int .u64 10000000000000, .int .u64 100000000000000, .int .u64 1000000000000000, .int .u64 10000000000000000, .int .u64 100000000000000000, .int .u64 1000000000000000000, .int .u64 10000000000000000000]
/-- math/bits.deBruijn32tab -/
def g6 : List AV := [.int .u8 0, .int .u8 1, .int .u8 28, .int .u8 2, .int .u8 29, .int .u8 14, .int .u8 24, .int .u8 3, .int .u8 30, .int .u8 22, .int .u8 20, .int .u8 15, .int .u8 25, .int .u8 17, .int .u8 4, .int .u8 8, .int .u8 31, .int .u8 27, .int .u8 13, .int .u8 23, .int .u8 21, .int .u8 19, .int .u8 16, .int .u8 7, .int .u8 26, .int .u8 12, .int .u8 18, .int .u8 6, .int .u8 11, .int .u8 5, .int .u8 10, .int .u8 9]
/-- math/bits.deBruijn64tab -/
def g7 : List AV := [.int .u8 0, .int .u8 1, .int .u8 56, .int .u8 2, .int .u8 57, .int .u8 49, .int .u8 28, .int .u8 3, .int .u8 61, .int .u8 58, .int .u8 42, .int .u8 50, .int .u8 38, .int .u8 29, .int .u8 17, .int .u8 4, .int .u8 62, .int .u8 47, .int .u8 59, .int .u8 36, .int .u8 45, .int .u8 43, .int .u8 51, .int .u8 22, .int .u8 53, .int .u8 39, .int .u8 33, .int .u8 30, .int .u8 24, .int .u8 18, .int .u8 12, .int .u8 5, .int .u8 63, .int .u8 55, .int .u8 48, .int .u8 27, .int .u8 60, .int .u8 41, .int .u8 37, .int .u8 16, .int .u8 46, .int .u8 35, .int .u8 44, .int .u8 21, .int .u8 52, .int .u8 32, .int .u8 23, .int .u8 11, .int .u8 54, .int .u8 26, .int .u8 40, .int .u8 15, .int .u8 34, .int .u8 20, .int .u8 31, .int .u8 10, .int .u8 25, .int .u8 14, .int .u8 19, .int .u8 9, .int .u8 13, .int .u8 8, .int .u8 7, .int .u8 6]
def globAll : Nat → Option (List AV)
  | 0 => some g0
  | 1 => some g1
  | 2 => some g2
  | 3 => some g3
  | 5 => some g5
  | 6 => some g6
  | 7 => some g7
  | _ => none
/-- A byte's first place; -1: it is nowhere. -/
def idxByte : List UInt8 → Int → Int
  | [], _ => -1
  | x :: s, c => if (x.toNat : Int) = c then 0 else let r := idxByte s c; if r = -1 then -1 else r + 1
/-- Functions that are told by what they answer. -/
def extIB : List AV → Option AV
  | [.str s, .int .u8 c] => if 0 ≤ c ∧ c ≤ 255 then some (.int .i64 (idxByte s c)) else none
  | _ => none
def extCl : List AV → Option AV
  | [.str s] => if s.length ≤ 1000000 then some (.str s) else none
  | _ => none
def extAll : Nat → Option (List AV → Option AV)
  | 81 => some extIB
  | 98 => some extCl
  | _ => none
end Go.Pv
/- What functions reach; what is asked of an environment to run one. Conditions: none; definitions. -/
namespace Go.Pv
def fnAll : Nat → Option SFunc
  | 3 => some f3
  | 4 => some f4
  | 5 => some f5
  | 6 => some f6
  | 7 => some f7
  | 8 => some f8
  | 9 => some f9
  | 10 => some f10
  | 11 => some f11
  | 12 => some f12
  | 13 => some f13
  | 14 => some f14
  | 15 => some f15
  | 16 => some f16
  | 17 => some f17
  | 18 => some f18
  | 19 => some f19
  | 20 => some f20
  | 21 => some f21
  | 22 => some f22
  | 23 => some f23
  | 24 => some f24
  | 25 => some f25
  | 26 => some f26
  | 27 => some f27
  | 28 => some f28
  | 29 => some f29
  | 30 => some f30
  | 31 => some f31
  | 32 => some f32
  | 33 => some f33
  | 34 => some f34
  | 35 => some f35
  | 36 => some f36
  | 37 => some f37
  | 38 => some f38
  | 39 => some f39
  | 40 => some f40
  | 41 => some f41
  | 42 => some f42
  | 43 => some f43
  | 44 => some f44
  | 45 => some f45
  | 46 => some f46
  | 47 => some f47
  | 48 => some f48
  | 49 => some f49
  | 50 => some f50
  | 51 => some f51
  | 52 => some f52
  | 53 => some f53
  | 54 => some f54
  | 55 => some f55
  | 56 => some f56
  | 57 => some f57
  | 58 => some f58
  | 59 => some f59
  | 60 => some f60
  | 61 => some f61
  | 62 => some f62
  | 63 => some f63
  | 64 => some f64
  | 65 => some f65
  | 66 => some f66
  | 67 => some f67
  | 68 => some f68
  | 69 => some f69
  | 70 => some f70
  | 71 => some f71
  | 72 => some f72
  | 73 => some f73
  | 74 => some f74
  | 75 => some f75
  | 76 => some f76
  | 77 => some f77
  | 78 => some f78
  | 79 => some f79
  | 80 => some f80
  | 82 => some f82
  | 83 => some f83
  | 84 => some f84
  | 85 => some f85
  | 86 => some f86
  | 87 => some f87
  | 88 => some f88
  | 89 => some f89
  | 90 => some f90
  | 91 => some f91
  | 92 => some f92
  | 94 => some f94
  | 95 => some f95
  | 96 => some f96
  | 97 => some f97
  | 99 => some f99
  | 100 => some f100
  | 101 => some f101
  | 102 => some f102
  | 103 => some f103
  | 104 => some f104
  | 105 => some f105
  | 106 => some f106
  | 107 => some f107
  | 108 => some f108
  | 109 => some f109
  | 110 => some f110
  | 111 => some f111
  | 112 => some f112
  | 113 => some f113
  | 114 => some f114
  | 115 => some f115
  | 116 => some f116
  | 164 => some f164
  | 165 => some f165
  | 172 => some f172
  | 176 => some f176
  | 193 => some f193
  | 194 => some f194
  | 195 => some f195
  | 196 => some f196
  | 197 => some f197
  | 217 => some f217
  | _ => none
def rch : Nat → List Nat
  | 3 => [3, 8, 9, 10, 11, 12, 14, 21, 22, 23, 24, 25, 26, 34, 35, 36, 37, 38, 39, 40, 41, 51, 52, 53, 54, 55, 56, 57, 58, 59, 60, 61, 71, 72, 73, 74, 75, 85, 86, 87]
  | 4 => [4, 8, 10, 11, 12, 13, 14, 23, 24, 25, 26, 35, 36, 37, 38, 39, 40, 41, 54, 55, 56, 57, 58, 59, 60, 61, 75]
  | 5 => [5, 8, 10, 11, 12, 14, 15, 16, 23, 24, 25, 26, 27, 28, 29, 35, 36, 37, 38, 39, 40, 41, 42, 43, 54, 55, 56, 57, 58, 59, 60, 61, 75]
  | 6 => [6, 13, 17, 18, 19, 20, 25, 26, 30, 31, 32, 33, 38, 39, 40, 41, 44, 45, 46, 47, 48, 49, 50, 56, 57, 58, 59, 60, 61, 62, 63, 64, 65, 66, 67, 68, 69, 70, 75, 76, 77, 78, 79, 80, 81, 82, 83, 84, 88, 89, 90, 91, 92, 93, 94, 95, 96, 97, 98, 99, 100, 101, 102, 103, 104, 105, 106, 107, 108, 109, 110, 111, 112, 113, 114, 115, 116]
  | 7 => [7, 8, 10, 11, 12, 13, 14, 20, 23, 24, 25, 26, 30, 31, 32, 33, 35, 36, 37, 38, 39, 40, 41, 44, 45, 46, 47, 48, 49, 50, 54, 55, 56, 57, 58, 59, 60, 61, 62, 63, 64, 65, 66, 67, 68, 69, 70, 75, 76, 77, 78, 79, 80, 81, 82, 83, 84, 88, 89, 90, 91, 92, 93, 94, 95, 96, 97, 98, 99, 100, 101, 102, 103, 104, 105, 106, 107, 108, 109, 110, 111, 112, 113, 114, 115, 116]
  | 8 => [8, 11, 12, 23, 24, 25, 26, 35, 36, 37, 38, 39, 40, 41, 54, 55, 56, 57, 58, 59, 60, 61, 75]
  | 9 => [9, 11, 12, 14, 21, 22, 23, 24, 25, 26, 34, 35, 36, 37, 38, 39, 40, 41, 51, 52, 53, 54, 55, 56, 57, 58, 59, 60, 61, 71, 72, 73, 74, 75, 85, 86, 87]
  | 10 => [10]
  | 11 => [11, 23, 25, 26, 35, 36, 37, 38, 39, 40, 41, 54, 55, 56, 57, 58, 59, 60, 61, 75]
  | 12 => [12, 23, 24, 25, 26, 35, 36, 37, 38, 39, 40, 41, 54, 55, 56, 57, 58, 59, 60, 61, 75]
  | 13 => [13, 25, 26, 38, 39, 40, 41, 56, 57, 58, 59, 60, 61, 75]
  | 14 => [11, 14, 23, 25, 26, 35, 36, 37, 38, 39, 40, 41, 54, 55, 56, 57, 58, 59, 60, 61, 75]
  | 15 => [11, 15, 23, 25, 26, 27, 28, 35, 36, 37, 38, 39, 40, 41, 42, 43, 54, 55, 56, 57, 58, 59, 60, 61, 75]
  | 16 => [16, 28, 29, 43]
  | 17 => [13, 17, 20, 25, 26, 30, 31, 32, 33, 38, 39, 40, 41, 44, 45, 46, 47, 48, 49, 50, 56, 57, 58, 59, 60, 61, 62, 63, 64, 65, 66, 67, 68, 69, 70, 75, 76, 77, 78, 79, 80, 81, 82, 83, 84, 88, 89, 90, 91, 92, 93, 94, 95, 96, 97, 98, 99, 100, 101, 102, 103, 104, 105, 106, 107, 108, 109, 110, 111, 112, 113, 114, 115, 116]
  | 18 => [18]
  | 19 => [19]
  | 20 => [13, 20, 25, 26, 30, 31, 32, 33, 38, 39, 40, 41, 44, 45, 46, 47, 48, 49, 50, 56, 57, 58, 59, 60, 61, 62, 63, 64, 65, 66, 67, 68, 69, 70, 75, 76, 77, 78, 79, 80, 81, 82, 83, 84, 88, 89, 90, 91, 92, 93, 94, 95, 96, 97, 98, 99, 100, 101, 102, 103, 104, 105, 106, 107, 108, 109, 110, 111, 112, 113, 114, 115, 116]
  | 21 => [21, 34, 51, 52, 53, 71, 72, 73, 74, 85, 86, 87]
  | 22 => [22]
  | 23 => [23, 25, 26, 35, 36, 37, 38, 39, 40, 41, 54, 55, 56, 57, 58, 59, 60, 61, 75]
  | 24 => [23, 24, 25, 26, 35, 36, 37, 38, 39, 40, 41, 54, 55, 56, 57, 58, 59, 60, 61, 75]
  | 25 => [25, 38, 56, 57, 58]
  | 26 => [26, 39, 40, 41, 59, 60, 61, 75]
  | 27 => [27, 28, 42, 43]
  | 28 => [28, 43]
  | 29 => [29, 43]
  | 30 => [30, 32, 44, 45, 46, 47, 62, 63, 64, 65, 66, 67, 76, 77, 78, 79, 80, 81, 88, 89, 90, 91, 92, 93, 96, 97, 98, 99, 100, 102, 104, 106, 107, 108, 109, 110, 111, 112, 113, 114, 115, 116]
  | 31 => [31]
  | 32 => [32, 44, 46, 47, 62, 63, 64, 65, 66, 67, 76, 77, 78, 79, 80, 81, 88, 89, 90, 91, 92, 93, 96, 97, 98, 99, 100, 102, 104, 106, 107, 108, 109, 110, 111, 112, 113, 114, 115, 116]
  | 33 => [13, 25, 26, 33, 38, 39, 40, 41, 44, 48, 49, 50, 56, 57, 58, 59, 60, 61, 68, 69, 70, 75, 82, 83, 84, 94, 95, 101, 103, 105]
  | 34 => [34, 51, 52, 53, 71, 72, 73, 74, 85, 86, 87]
  | 35 => [25, 26, 35, 36, 37, 38, 39, 40, 41, 54, 55, 56, 57, 58, 59, 60, 61, 75]
  | 36 => [36, 54]
  | 37 => [26, 37, 39, 40, 41, 55, 59, 60, 61, 75]
  | 38 => [38, 56, 57, 58]
  | 39 => [39, 59, 60]
  | 40 => [39, 40, 41, 59, 60, 61, 75]
  | 41 => [41, 61, 75]
  | 42 => [42]
  | 43 => [43]
  | 44 => [44]
  | 45 => [45]
  | 46 => [44, 46, 47, 62, 63, 64, 65, 66, 67, 76, 77, 78, 79, 80, 81, 88, 89, 90, 91, 92, 93, 96, 97, 98, 99, 100, 102, 104, 106, 107, 108, 109, 110, 111, 112, 113, 114, 115, 116]
  | 47 => [44, 47, 62, 63, 64, 65, 66, 67, 76, 77, 78, 79, 80, 81, 88, 89, 90, 91, 92, 93, 96, 97, 98, 99, 100, 102, 104, 106, 107, 108, 109, 110, 111, 112, 113, 114, 115, 116]
  | 48 => [48]
  | 49 => [13, 25, 26, 38, 39, 40, 41, 49, 50, 56, 57, 58, 59, 60, 61, 68, 69, 70, 75, 82, 83, 84, 94, 95, 101, 103, 105]
  | 50 => [50, 70]
  | 51 => [51, 71, 72, 73, 85]
  | 52 => [52, 53, 74, 86, 87]
  | 53 => [53]
  | 54 => [54]
  | 55 => [55]
  | 56 => [56]
  | 57 => [57]
  | 58 => [58]
  | 59 => [59]
  | 60 => [60]
  | 61 => [61, 75]
  | 62 => [44, 62, 66, 81, 93]
  | 63 => [44, 62, 63, 66, 76, 81, 93]
  | 64 => [44, 64, 77, 78]
  | 65 => [65, 79, 80, 88, 89, 90, 91, 92, 96, 97, 98, 99, 100, 102, 104, 106, 107, 108, 109, 110, 111, 112, 113, 114, 115, 116]
  | 66 => [66, 81, 93]
  | 67 => [44, 67]
  | 68 => [68, 82, 83]
  | 69 => [13, 25, 26, 38, 39, 40, 41, 49, 50, 56, 57, 58, 59, 60, 61, 68, 69, 70, 75, 82, 83, 84, 94, 95, 101, 103, 105]
  | 70 => [70]
  | 71 => [71, 85]
  | 72 => [72, 85]
  | 73 => [73]
  | 74 => [74, 86, 87]
  | 75 => [75]
  | 76 => [44, 62, 66, 76, 81, 93]
  | 77 => [77]
  | 78 => [78]
  | 79 => [79, 88, 96, 97]
  | 80 => [80, 89, 90, 91, 92, 98, 99, 100, 102, 104, 106, 107, 108, 109, 110, 111, 112, 113, 114, 115, 116]
  | 82 => [82]
  | 83 => [83]
  | 84 => [13, 25, 26, 38, 39, 40, 41, 49, 50, 56, 57, 58, 59, 60, 61, 68, 69, 70, 75, 82, 83, 84, 94, 95, 101, 103, 105]
  | 85 => [85]
  | 86 => [86]
  | 87 => [87]
  | 88 => [88, 96, 97]
  | 89 => [89, 98]
  | 90 => [90, 98]
  | 91 => [91, 98, 99, 100, 102, 104, 106, 107, 108, 109, 110, 111, 112, 113, 114, 115, 116]
  | 92 => [92, 98, 99, 100, 102, 104, 106, 107, 108, 109, 110, 111, 112, 113, 114, 115, 116]
  | 94 => [13, 25, 26, 38, 39, 40, 41, 50, 56, 57, 58, 59, 60, 61, 68, 70, 75, 82, 83, 94, 95, 101, 103, 105]
  | 95 => [50, 70, 82, 83, 95]
  | 96 => [96]
  | 97 => [96, 97]
  | 99 => [99]
  | 100 => [100, 102, 104, 106, 107, 108, 109, 110, 111, 112, 113, 114, 115, 116]
  | 101 => [50, 68, 70, 82, 83, 95, 101, 103, 105]
  | 102 => [102, 104, 106, 107, 108, 109, 110, 111, 112, 113, 114, 115, 116]
  | 103 => [103, 105]
  | 104 => [104, 106, 107, 108, 109, 110, 111, 112, 113, 114, 115, 116]
  | 105 => [105]
  | 106 => [106]
  | 107 => [107, 110, 111, 112]
  | 108 => [108]
  | 109 => [109, 113, 114, 115, 116]
  | 110 => [110]
  | 111 => [111]
  | 112 => [112]
  | 113 => [113]
  | 114 => [114, 115, 116]
  | 115 => [115]
  | 116 => [116]
  | 164 => [19, 164, 172, 176, 193, 194, 195, 196, 197]
  | 165 => [19, 165]
  | 172 => [19, 172]
  | 176 => [19, 172, 176, 193, 194, 195, 196, 197]
  | 193 => [19, 193]
  | 194 => [19, 193, 194]
  | 195 => [19, 195]
  | 196 => [196]
  | 197 => [19, 172, 197]
  | 217 => [51, 71, 72, 73, 74, 85, 86, 87, 217]
  | _ => []
def grch : Nat → List Nat
  | 3 => [0]
  | 4 => [0]
  | 5 => [0]
  | 6 => [0, 1, 2, 3, 5, 6, 7]
  | 7 => [0, 1, 2, 3, 5, 6, 7]
  | 8 => [0]
  | 9 => [0]
  | 10 => []
  | 11 => [0]
  | 12 => [0]
  | 13 => [0]
  | 14 => [0]
  | 15 => [0]
  | 16 => []
  | 17 => [0, 1, 2, 3, 5, 6, 7]
  | 18 => []
  | 19 => []
  | 20 => [0, 1, 2, 3, 5, 6, 7]
  | 21 => []
  | 22 => []
  | 23 => [0]
  | 24 => [0]
  | 25 => [0]
  | 26 => []
  | 27 => []
  | 28 => []
  | 29 => []
  | 30 => [1, 2, 3, 5, 6, 7]
  | 31 => []
  | 32 => [1, 2, 3, 5, 6, 7]
  | 33 => [0, 1]
  | 34 => []
  | 35 => [0]
  | 36 => []
  | 37 => []
  | 38 => [0]
  | 39 => []
  | 40 => []
  | 41 => []
  | 42 => []
  | 43 => []
  | 44 => [1]
  | 45 => []
  | 46 => [1, 2, 3, 5, 6, 7]
  | 47 => [1, 2, 3, 5, 6, 7]
  | 48 => []
  | 49 => [0]
  | 50 => []
  | 51 => []
  | 52 => []
  | 53 => []
  | 54 => []
  | 55 => []
  | 56 => []
  | 57 => []
  | 58 => []
  | 59 => []
  | 60 => []
  | 61 => []
  | 62 => [1]
  | 63 => [1]
  | 64 => [1]
  | 65 => [2, 3, 5, 6, 7]
  | 66 => []
  | 67 => [1]
  | 68 => []
  | 69 => [0]
  | 70 => []
  | 71 => []
  | 72 => []
  | 73 => []
  | 74 => []
  | 75 => []
  | 76 => [1]
  | 77 => []
  | 78 => []
  | 79 => []
  | 80 => [2, 3, 5, 6, 7]
  | 82 => []
  | 83 => []
  | 84 => [0]
  | 85 => []
  | 86 => []
  | 87 => []
  | 88 => []
  | 89 => [2]
  | 90 => [3]
  | 91 => [5, 6, 7]
  | 92 => [5, 6, 7]
  | 94 => [0]
  | 95 => []
  | 96 => []
  | 97 => []
  | 99 => []
  | 100 => [5, 6, 7]
  | 101 => []
  | 102 => [5, 6, 7]
  | 103 => []
  | 104 => [5, 6, 7]
  | 105 => []
  | 106 => []
  | 107 => [5]
  | 108 => []
  | 109 => [6, 7]
  | 110 => []
  | 111 => []
  | 112 => []
  | 113 => []
  | 114 => [6, 7]
  | 115 => [6]
  | 116 => [7]
  | 164 => []
  | 165 => []
  | 172 => []
  | 176 => []
  | 193 => []
  | 194 => []
  | 195 => []
  | 196 => []
  | 197 => []
  | 217 => []
  | _ => []
/-- The functions that one reaches are run as they are printed; variables hold what they hold. -/
structure Has (j : Nat) (E : Env) : Prop where
  fn : ∀ k f, k ∈ rch j → fnAll k = some f → E.code k = some f
  gl : ∀ g cs, g ∈ grch j → globAll g = some cs → E.glob g = some cs
  ex : ∀ k g, k ∈ rch j → extAll k = some g → E.ext k = some g
def subL : List Nat → List Nat → Bool
  | [], _ => true
  | _ :: _, [] => false
  | a :: as, b :: bs => if a = b then subL as bs else if b < a then subL (a :: as) bs else false
theorem subL_mem : ∀ {as bs : List Nat}, subL as bs = true → ∀ x ∈ as, x ∈ bs
  | [], _, _, x, hx => by simp at hx
  | a :: as, [], h, _, _ => by simp [subL] at h
  | a :: as, b :: bs, h, x, hx => by
    simp only [subL] at h
    split at h
    · rename_i hab
      subst hab
      rcases List.mem_cons.1 hx with rfl | hx
      · exact List.mem_cons_self
      · exact List.mem_cons_of_mem _ (subL_mem h x hx)
    · split at h
      · exact List.mem_cons_of_mem _ (subL_mem h x hx)
      · cases h
theorem Has.to {j : Nat} {E : Env} (H : Has j E) (k : Nat) (h : (subL (rch k) (rch j) && subL (grch k) (grch j)) = true := by rfl) : Has k E := by
  rw [Bool.and_eq_true] at h
  exact ⟨fun i f hi hf => H.fn i f (subL_mem h.1 i hi) hf, fun g cs hg hc => H.gl g cs (subL_mem h.2 g hg) hc, fun i g hi hf => H.ex i g (subL_mem h.1 i hi) hf⟩
theorem Has.c3 {j : Nat} {E : Env} (H : Has j E) (h : (rch j).contains 3 = true := by rfl) : E.code 3 = some f3 := H.fn 3 Pv.f3 (by simpa using h) rfl
theorem Has.c4 {j : Nat} {E : Env} (H : Has j E) (h : (rch j).contains 4 = true := by rfl) : E.code 4 = some f4 := H.fn 4 Pv.f4 (by simpa using h) rfl
theorem Has.c5 {j : Nat} {E : Env} (H : Has j E) (h : (rch j).contains 5 = true := by rfl) : E.code 5 = some f5 := H.fn 5 Pv.f5 (by simpa using h) rfl
theorem Has.c6 {j : Nat} {E : Env} (H : Has j E) (h : (rch j).contains 6 = true := by rfl) : E.code 6 = some f6 := H.fn 6 Pv.f6 (by simpa using h) rfl
theorem Has.c7 {j : Nat} {E : Env} (H : Has j E) (h : (rch j).contains 7 = true := by rfl) : E.code 7 = some f7 := H.fn 7 Pv.f7 (by simpa using h) rfl
theorem Has.c8 {j : Nat} {E : Env} (H : Has j E) (h : (rch j).contains 8 = true := by rfl) : E.code 8 = some f8 := H.fn 8 Pv.f8 (by simpa using h) rfl
theorem Has.c9 {j : Nat} {E : Env} (H : Has j E) (h : (rch j).contains 9 = true := by rfl) : E.code 9 = some f9 := H.fn 9 Pv.f9 (by simpa using h) rfl
theorem Has.c10 {j : Nat} {E : Env} (H : Has j E) (h : (rch j).contains 10 = true := by rfl) : E.code 10 = some f10 := H.fn 10 Pv.f10 (by simpa using h) rfl
theorem Has.c11 {j : Nat} {E : Env} (H : Has j E) (h : (rch j).contains 11 = true := by rfl) : E.code 11 = some f11 := H.fn 11 Pv.f11 (by simpa using h) rfl
theorem Has.c12 {j : Nat} {E : Env} (H : Has j E) (h : (rch j).contains 12 = true := by rfl) : E.code 12 = some f12 := H.fn 12 Pv.f12 (by simpa using h) rfl
theorem Has.c13 {j : Nat} {E : Env} (H : Has j E) (h : (rch j).contains 13 = true := by rfl) : E.code 13 = some f13 := H.fn 13 Pv.f13 (by simpa using h) rfl
theorem Has.c14 {j : Nat} {E : Env} (H : Has j E) (h : (rch j).contains 14 = true := by rfl) : E.code 14 = some f14 := H.fn 14 Pv.f14 (by simpa using h) rfl
theorem Has.c15 {j : Nat} {E : Env} (H : Has j E) (h : (rch j).contains 15 = true := by rfl) : E.code 15 = some f15 := H.fn 15 Pv.f15 (by simpa using h) rfl
theorem Has.c16 {j : Nat} {E : Env} (H : Has j E) (h : (rch j).contains 16 = true := by rfl) : E.code 16 = some f16 := H.fn 16 Pv.f16 (by simpa using h) rfl
theorem Has.c17 {j : Nat} {E : Env} (H : Has j E) (h : (rch j).contains 17 = true := by rfl) : E.code 17 = some f17 := H.fn 17 Pv.f17 (by simpa using h) rfl
theorem Has.c18 {j : Nat} {E : Env} (H : Has j E) (h : (rch j).contains 18 = true := by rfl) : E.code 18 = some f18 := H.fn 18 Pv.f18 (by simpa using h) rfl
theorem Has.c19 {j : Nat} {E : Env} (H : Has j E) (h : (rch j).contains 19 = true := by rfl) : E.code 19 = some f19 := H.fn 19 Pv.f19 (by simpa using h) rfl
theorem Has.c20 {j : Nat} {E : Env} (H : Has j E) (h : (rch j).contains 20 = true := by rfl) : E.code 20 = some f20 := H.fn 20 Pv.f20 (by simpa using h) rfl
theorem Has.c21 {j : Nat} {E : Env} (H : Has j E) (h : (rch j).contains 21 = true := by rfl) : E.code 21 = some f21 := H.fn 21 Pv.f21 (by simpa using h) rfl
theorem Has.c22 {j : Nat} {E : Env} (H : Has j E) (h : (rch j).contains 22 = true := by rfl) : E.code 22 = some f22 := H.fn 22 Pv.f22 (by simpa using h) rfl
theorem Has.c23 {j : Nat} {E : Env} (H : Has j E) (h : (rch j).contains 23 = true := by rfl) : E.code 23 = some f23 := H.fn 23 Pv.f23 (by simpa using h) rfl
theorem Has.c24 {j : Nat} {E : Env} (H : Has j E) (h : (rch j).contains 24 = true := by rfl) : E.code 24 = some f24 := H.fn 24 Pv.f24 (by simpa using h) rfl
theorem Has.c25 {j : Nat} {E : Env} (H : Has j E) (h : (rch j).contains 25 = true := by rfl) : E.code 25 = some f25 := H.fn 25 Pv.f25 (by simpa using h) rfl
theorem Has.c26 {j : Nat} {E : Env} (H : Has j E) (h : (rch j).contains 26 = true := by rfl) : E.code 26 = some f26 := H.fn 26 Pv.f26 (by simpa using h) rfl
theorem Has.c27 {j : Nat} {E : Env} (H : Has j E) (h : (rch j).contains 27 = true := by rfl) : E.code 27 = some f27 := H.fn 27 Pv.f27 (by simpa using h) rfl
theorem Has.c28 {j : Nat} {E : Env} (H : Has j E) (h : (rch j).contains 28 = true := by rfl) : E.code 28 = some f28 := H.fn 28 Pv.f28 (by simpa using h) rfl
theorem Has.c29 {j : Nat} {E : Env} (H : Has j E) (h : (rch j).contains 29 = true := by rfl) : E.code 29 = some f29 := H.fn 29 Pv.f29 (by simpa using h) rfl
theorem Has.c30 {j : Nat} {E : Env} (H : Has j E) (h : (rch j).contains 30 = true := by rfl) : E.code 30 = some f30 := H.fn 30 Pv.f30 (by simpa using h) rfl
theorem Has.c31 {j : Nat} {E : Env} (H : Has j E) (h : (rch j).contains 31 = true := by rfl) : E.code 31 = some f31 := H.fn 31 Pv.f31 (by simpa using h) rfl
theorem Has.c32 {j : Nat} {E : Env} (H : Has j E) (h : (rch j).contains 32 = true := by rfl) : E.code 32 = some f32 := H.fn 32 Pv.f32 (by simpa using h) rfl
theorem Has.c33 {j : Nat} {E : Env} (H : Has j E) (h : (rch j).contains 33 = true := by rfl) : E.code 33 = some f33 := H.fn 33 Pv.f33 (by simpa using h) rfl
theorem Has.c34 {j : Nat} {E : Env} (H : Has j E) (h : (rch j).contains 34 = true := by rfl) : E.code 34 = some f34 := H.fn 34 Pv.f34 (by simpa using h) rfl
theorem Has.c35 {j : Nat} {E : Env} (H : Has j E) (h : (rch j).contains 35 = true := by rfl) : E.code 35 = some f35 := H.fn 35 Pv.f35 (by simpa using h) rfl
theorem Has.c36 {j : Nat} {E : Env} (H : Has j E) (h : (rch j).contains 36 = true := by rfl) : E.code 36 = some f36 := H.fn 36 Pv.f36 (by simpa using h) rfl
theorem Has.c37 {j : Nat} {E : Env} (H : Has j E) (h : (rch j).contains 37 = true := by rfl) : E.code 37 = some f37 := H.fn 37 Pv.f37 (by simpa using h) rfl
theorem Has.c38 {j : Nat} {E : Env} (H : Has j E) (h : (rch j).contains 38 = true := by rfl) : E.code 38 = some f38 := H.fn 38 Pv.f38 (by simpa using h) rfl
theorem Has.c39 {j : Nat} {E : Env} (H : Has j E) (h : (rch j).contains 39 = true := by rfl) : E.code 39 = some f39 := H.fn 39 Pv.f39 (by simpa using h) rfl
theorem Has.c40 {j : Nat} {E : Env} (H : Has j E) (h : (rch j).contains 40 = true := by rfl) : E.code 40 = some f40 := H.fn 40 Pv.f40 (by simpa using h) rfl
theorem Has.c41 {j : Nat} {E : Env} (H : Has j E) (h : (rch j).contains 41 = true := by rfl) : E.code 41 = some f41 := H.fn 41 Pv.f41 (by simpa using h) rfl
theorem Has.c42 {j : Nat} {E : Env} (H : Has j E) (h : (rch j).contains 42 = true := by rfl) : E.code 42 = some f42 := H.fn 42 Pv.f42 (by simpa using h) rfl
theorem Has.c43 {j : Nat} {E : Env} (H : Has j E) (h : (rch j).contains 43 = true := by rfl) : E.code 43 = some f43 := H.fn 43 Pv.f43 (by simpa using h) rfl
theorem Has.c44 {j : Nat} {E : Env} (H : Has j E) (h : (rch j).contains 44 = true := by rfl) : E.code 44 = some f44 := H.fn 44 Pv.f44 (by simpa using h) rfl
theorem Has.c45 {j : Nat} {E : Env} (H : Has j E) (h : (rch j).contains 45 = true := by rfl) : E.code 45 = some f45 := H.fn 45 Pv.f45 (by simpa using h) rfl
theorem Has.c46 {j : Nat} {E : Env} (H : Has j E) (h : (rch j).contains 46 = true := by rfl) : E.code 46 = some f46 := H.fn 46 Pv.f46 (by simpa using h) rfl
theorem Has.c47 {j : Nat} {E : Env} (H : Has j E) (h : (rch j).contains 47 = true := by rfl) : E.code 47 = some f47 := H.fn 47 Pv.f47 (by simpa using h) rfl
theorem Has.c48 {j : Nat} {E : Env} (H : Has j E) (h : (rch j).contains 48 = true := by rfl) : E.code 48 = some f48 := H.fn 48 Pv.f48 (by simpa using h) rfl
theorem Has.c49 {j : Nat} {E : Env} (H : Has j E) (h : (rch j).contains 49 = true := by rfl) : E.code 49 = some f49 := H.fn 49 Pv.f49 (by simpa using h) rfl
theorem Has.c50 {j : Nat} {E : Env} (H : Has j E) (h : (rch j).contains 50 = true := by rfl) : E.code 50 = some f50 := H.fn 50 Pv.f50 (by simpa using h) rfl
theorem Has.c51 {j : Nat} {E : Env} (H : Has j E) (h : (rch j).contains 51 = true := by rfl) : E.code 51 = some f51 := H.fn 51 Pv.f51 (by simpa using h) rfl
theorem Has.c52 {j : Nat} {E : Env} (H : Has j E) (h : (rch j).contains 52 = true := by rfl) : E.code 52 = some f52 := H.fn 52 Pv.f52 (by simpa using h) rfl
theorem Has.c53 {j : Nat} {E : Env} (H : Has j E) (h : (rch j).contains 53 = true := by rfl) : E.code 53 = some f53 := H.fn 53 Pv.f53 (by simpa using h) rfl
theorem Has.c54 {j : Nat} {E : Env} (H : Has j E) (h : (rch j).contains 54 = true := by rfl) : E.code 54 = some f54 := H.fn 54 Pv.f54 (by simpa using h) rfl
theorem Has.c55 {j : Nat} {E : Env} (H : Has j E) (h : (rch j).contains 55 = true := by rfl) : E.code 55 = some f55 := H.fn 55 Pv.f55 (by simpa using h) rfl
theorem Has.c56 {j : Nat} {E : Env} (H : Has j E) (h : (rch j).contains 56 = true := by rfl) : E.code 56 = some f56 := H.fn 56 Pv.f56 (by simpa using h) rfl
theorem Has.c57 {j : Nat} {E : Env} (H : Has j E) (h : (rch j).contains 57 = true := by rfl) : E.code 57 = some f57 := H.fn 57 Pv.f57 (by simpa using h) rfl
theorem Has.c58 {j : Nat} {E : Env} (H : Has j E) (h : (rch j).contains 58 = true := by rfl) : E.code 58 = some f58 := H.fn 58 Pv.f58 (by simpa using h) rfl
theorem Has.c59 {j : Nat} {E : Env} (H : Has j E) (h : (rch j).contains 59 = true := by rfl) : E.code 59 = some f59 := H.fn 59 Pv.f59 (by simpa using h) rfl
theorem Has.c60 {j : Nat} {E : Env} (H : Has j E) (h : (rch j).contains 60 = true := by rfl) : E.code 60 = some f60 := H.fn 60 Pv.f60 (by simpa using h) rfl
theorem Has.c61 {j : Nat} {E : Env} (H : Has j E) (h : (rch j).contains 61 = true := by rfl) : E.code 61 = some f61 := H.fn 61 Pv.f61 (by simpa using h) rfl
theorem Has.c62 {j : Nat} {E : Env} (H : Has j E) (h : (rch j).contains 62 = true := by rfl) : E.code 62 = some f62 := H.fn 62 Pv.f62 (by simpa using h) rfl
theorem Has.c63 {j : Nat} {E : Env} (H : Has j E) (h : (rch j).contains 63 = true := by rfl) : E.code 63 = some f63 := H.fn 63 Pv.f63 (by simpa using h) rfl
theorem Has.c64 {j : Nat} {E : Env} (H : Has j E) (h : (rch j).contains 64 = true := by rfl) : E.code 64 = some f64 := H.fn 64 Pv.f64 (by simpa using h) rfl
theorem Has.c65 {j : Nat} {E : Env} (H : Has j E) (h : (rch j).contains 65 = true := by rfl) : E.code 65 = some f65 := H.fn 65 Pv.f65 (by simpa using h) rfl
theorem Has.c66 {j : Nat} {E : Env} (H : Has j E) (h : (rch j).contains 66 = true := by rfl) : E.code 66 = some f66 := H.fn 66 Pv.f66 (by simpa using h) rfl
theorem Has.c67 {j : Nat} {E : Env} (H : Has j E) (h : (rch j).contains 67 = true := by rfl) : E.code 67 = some f67 := H.fn 67 Pv.f67 (by simpa using h) rfl
theorem Has.c68 {j : Nat} {E : Env} (H : Has j E) (h : (rch j).contains 68 = true := by rfl) : E.code 68 = some f68 := H.fn 68 Pv.f68 (by simpa using h) rfl
theorem Has.c69 {j : Nat} {E : Env} (H : Has j E) (h : (rch j).contains 69 = true := by rfl) : E.code 69 = some f69 := H.fn 69 Pv.f69 (by simpa using h) rfl
theorem Has.c70 {j : Nat} {E : Env} (H : Has j E) (h : (rch j).contains 70 = true := by rfl) : E.code 70 = some f70 := H.fn 70 Pv.f70 (by simpa using h) rfl
theorem Has.c71 {j : Nat} {E : Env} (H : Has j E) (h : (rch j).contains 71 = true := by rfl) : E.code 71 = some f71 := H.fn 71 Pv.f71 (by simpa using h) rfl
theorem Has.c72 {j : Nat} {E : Env} (H : Has j E) (h : (rch j).contains 72 = true := by rfl) : E.code 72 = some f72 := H.fn 72 Pv.f72 (by simpa using h) rfl
theorem Has.c73 {j : Nat} {E : Env} (H : Has j E) (h : (rch j).contains 73 = true := by rfl) : E.code 73 = some f73 := H.fn 73 Pv.f73 (by simpa using h) rfl
theorem Has.c74 {j : Nat} {E : Env} (H : Has j E) (h : (rch j).contains 74 = true := by rfl) : E.code 74 = some f74 := H.fn 74 Pv.f74 (by simpa using h) rfl
theorem Has.c75 {j : Nat} {E : Env} (H : Has j E) (h : (rch j).contains 75 = true := by rfl) : E.code 75 = some f75 := H.fn 75 Pv.f75 (by simpa using h) rfl
theorem Has.c76 {j : Nat} {E : Env} (H : Has j E) (h : (rch j).contains 76 = true := by rfl) : E.code 76 = some f76 := H.fn 76 Pv.f76 (by simpa using h) rfl
theorem Has.c77 {j : Nat} {E : Env} (H : Has j E) (h : (rch j).contains 77 = true := by rfl) : E.code 77 = some f77 := H.fn 77 Pv.f77 (by simpa using h) rfl
theorem Has.c78 {j : Nat} {E : Env} (H : Has j E) (h : (rch j).contains 78 = true := by rfl) : E.code 78 = some f78 := H.fn 78 Pv.f78 (by simpa using h) rfl
theorem Has.c79 {j : Nat} {E : Env} (H : Has j E) (h : (rch j).contains 79 = true := by rfl) : E.code 79 = some f79 := H.fn 79 Pv.f79 (by simpa using h) rfl
theorem Has.c80 {j : Nat} {E : Env} (H : Has j E) (h : (rch j).contains 80 = true := by rfl) : E.code 80 = some f80 := H.fn 80 Pv.f80 (by simpa using h) rfl
theorem Has.c82 {j : Nat} {E : Env} (H : Has j E) (h : (rch j).contains 82 = true := by rfl) : E.code 82 = some f82 := H.fn 82 Pv.f82 (by simpa using h) rfl
theorem Has.c83 {j : Nat} {E : Env} (H : Has j E) (h : (rch j).contains 83 = true := by rfl) : E.code 83 = some f83 := H.fn 83 Pv.f83 (by simpa using h) rfl
theorem Has.c84 {j : Nat} {E : Env} (H : Has j E) (h : (rch j).contains 84 = true := by rfl) : E.code 84 = some f84 := H.fn 84 Pv.f84 (by simpa using h) rfl
theorem Has.c85 {j : Nat} {E : Env} (H : Has j E) (h : (rch j).contains 85 = true := by rfl) : E.code 85 = some f85 := H.fn 85 Pv.f85 (by simpa using h) rfl
theorem Has.c86 {j : Nat} {E : Env} (H : Has j E) (h : (rch j).contains 86 = true := by rfl) : E.code 86 = some f86 := H.fn 86 Pv.f86 (by simpa using h) rfl
theorem Has.c87 {j : Nat} {E : Env} (H : Has j E) (h : (rch j).contains 87 = true := by rfl) : E.code 87 = some f87 := H.fn 87 Pv.f87 (by simpa using h) rfl
theorem Has.c88 {j : Nat} {E : Env} (H : Has j E) (h : (rch j).contains 88 = true := by rfl) : E.code 88 = some f88 := H.fn 88 Pv.f88 (by simpa using h) rfl
theorem Has.c89 {j : Nat} {E : Env} (H : Has j E) (h : (rch j).contains 89 = true := by rfl) : E.code 89 = some f89 := H.fn 89 Pv.f89 (by simpa using h) rfl
theorem Has.c90 {j : Nat} {E : Env} (H : Has j E) (h : (rch j).contains 90 = true := by rfl) : E.code 90 = some f90 := H.fn 90 Pv.f90 (by simpa using h) rfl
theorem Has.c91 {j : Nat} {E : Env} (H : Has j E) (h : (rch j).contains 91 = true := by rfl) : E.code 91 = some f91 := H.fn 91 Pv.f91 (by simpa using h) rfl
theorem Has.c92 {j : Nat} {E : Env} (H : Has j E) (h : (rch j).contains 92 = true := by rfl) : E.code 92 = some f92 := H.fn 92 Pv.f92 (by simpa using h) rfl
theorem Has.c94 {j : Nat} {E : Env} (H : Has j E) (h : (rch j).contains 94 = true := by rfl) : E.code 94 = some f94 := H.fn 94 Pv.f94 (by simpa using h) rfl
theorem Has.c95 {j : Nat} {E : Env} (H : Has j E) (h : (rch j).contains 95 = true := by rfl) : E.code 95 = some f95 := H.fn 95 Pv.f95 (by simpa using h) rfl
theorem Has.c96 {j : Nat} {E : Env} (H : Has j E) (h : (rch j).contains 96 = true := by rfl) : E.code 96 = some f96 := H.fn 96 Pv.f96 (by simpa using h) rfl
theorem Has.c97 {j : Nat} {E : Env} (H : Has j E) (h : (rch j).contains 97 = true := by rfl) : E.code 97 = some f97 := H.fn 97 Pv.f97 (by simpa using h) rfl
theorem Has.c99 {j : Nat} {E : Env} (H : Has j E) (h : (rch j).contains 99 = true := by rfl) : E.code 99 = some f99 := H.fn 99 Pv.f99 (by simpa using h) rfl
theorem Has.c100 {j : Nat} {E : Env} (H : Has j E) (h : (rch j).contains 100 = true := by rfl) : E.code 100 = some f100 := H.fn 100 Pv.f100 (by simpa using h) rfl
theorem Has.c101 {j : Nat} {E : Env} (H : Has j E) (h : (rch j).contains 101 = true := by rfl) : E.code 101 = some f101 := H.fn 101 Pv.f101 (by simpa using h) rfl
theorem Has.c102 {j : Nat} {E : Env} (H : Has j E) (h : (rch j).contains 102 = true := by rfl) : E.code 102 = some f102 := H.fn 102 Pv.f102 (by simpa using h) rfl
theorem Has.c103 {j : Nat} {E : Env} (H : Has j E) (h : (rch j).contains 103 = true := by rfl) : E.code 103 = some f103 := H.fn 103 Pv.f103 (by simpa using h) rfl
theorem Has.c104 {j : Nat} {E : Env} (H : Has j E) (h : (rch j).contains 104 = true := by rfl) : E.code 104 = some f104 := H.fn 104 Pv.f104 (by simpa using h) rfl
theorem Has.c105 {j : Nat} {E : Env} (H : Has j E) (h : (rch j).contains 105 = true := by rfl) : E.code 105 = some f105 := H.fn 105 Pv.f105 (by simpa using h) rfl
theorem Has.c106 {j : Nat} {E : Env} (H : Has j E) (h : (rch j).contains 106 = true := by rfl) : E.code 106 = some f106 := H.fn 106 Pv.f106 (by simpa using h) rfl
theorem Has.c107 {j : Nat} {E : Env} (H : Has j E) (h : (rch j).contains 107 = true := by rfl) : E.code 107 = some f107 := H.fn 107 Pv.f107 (by simpa using h) rfl
theorem Has.c108 {j : Nat} {E : Env} (H : Has j E) (h : (rch j).contains 108 = true := by rfl) : E.code 108 = some f108 := H.fn 108 Pv.f108 (by simpa using h) rfl
theorem Has.c109 {j : Nat} {E : Env} (H : Has j E) (h : (rch j).contains 109 = true := by rfl) : E.code 109 = some f109 := H.fn 109 Pv.f109 (by simpa using h) rfl
theorem Has.c110 {j : Nat} {E : Env} (H : Has j E) (h : (rch j).contains 110 = true := by rfl) : E.code 110 = some f110 := H.fn 110 Pv.f110 (by simpa using h) rfl
theorem Has.c111 {j : Nat} {E : Env} (H : Has j E) (h : (rch j).contains 111 = true := by rfl) : E.code 111 = some f111 := H.fn 111 Pv.f111 (by simpa using h) rfl
theorem Has.c112 {j : Nat} {E : Env} (H : Has j E) (h : (rch j).contains 112 = true := by rfl) : E.code 112 = some f112 := H.fn 112 Pv.f112 (by simpa using h) rfl
theorem Has.c113 {j : Nat} {E : Env} (H : Has j E) (h : (rch j).contains 113 = true := by rfl) : E.code 113 = some f113 := H.fn 113 Pv.f113 (by simpa using h) rfl
theorem Has.c114 {j : Nat} {E : Env} (H : Has j E) (h : (rch j).contains 114 = true := by rfl) : E.code 114 = some f114 := H.fn 114 Pv.f114 (by simpa using h) rfl
theorem Has.c115 {j : Nat} {E : Env} (H : Has j E) (h : (rch j).contains 115 = true := by rfl) : E.code 115 = some f115 := H.fn 115 Pv.f115 (by simpa using h) rfl
theorem Has.c116 {j : Nat} {E : Env} (H : Has j E) (h : (rch j).contains 116 = true := by rfl) : E.code 116 = some f116 := H.fn 116 Pv.f116 (by simpa using h) rfl
theorem Has.c164 {j : Nat} {E : Env} (H : Has j E) (h : (rch j).contains 164 = true := by rfl) : E.code 164 = some f164 := H.fn 164 Pv.f164 (by simpa using h) rfl
theorem Has.c165 {j : Nat} {E : Env} (H : Has j E) (h : (rch j).contains 165 = true := by rfl) : E.code 165 = some f165 := H.fn 165 Pv.f165 (by simpa using h) rfl
theorem Has.c172 {j : Nat} {E : Env} (H : Has j E) (h : (rch j).contains 172 = true := by rfl) : E.code 172 = some f172 := H.fn 172 Pv.f172 (by simpa using h) rfl
theorem Has.c176 {j : Nat} {E : Env} (H : Has j E) (h : (rch j).contains 176 = true := by rfl) : E.code 176 = some f176 := H.fn 176 Pv.f176 (by simpa using h) rfl
theorem Has.c193 {j : Nat} {E : Env} (H : Has j E) (h : (rch j).contains 193 = true := by rfl) : E.code 193 = some f193 := H.fn 193 Pv.f193 (by simpa using h) rfl
theorem Has.c194 {j : Nat} {E : Env} (H : Has j E) (h : (rch j).contains 194 = true := by rfl) : E.code 194 = some f194 := H.fn 194 Pv.f194 (by simpa using h) rfl
theorem Has.c195 {j : Nat} {E : Env} (H : Has j E) (h : (rch j).contains 195 = true := by rfl) : E.code 195 = some f195 := H.fn 195 Pv.f195 (by simpa using h) rfl
theorem Has.c196 {j : Nat} {E : Env} (H : Has j E) (h : (rch j).contains 196 = true := by rfl) : E.code 196 = some f196 := H.fn 196 Pv.f196 (by simpa using h) rfl
theorem Has.c197 {j : Nat} {E : Env} (H : Has j E) (h : (rch j).contains 197 = true := by rfl) : E.code 197 = some f197 := H.fn 197 Pv.f197 (by simpa using h) rfl
theorem Has.c217 {j : Nat} {E : Env} (H : Has j E) (h : (rch j).contains 217 = true := by rfl) : E.code 217 = some f217 := H.fn 217 Pv.f217 (by simpa using h) rfl
theorem Has.x81 {j : Nat} {E : Env} (H : Has j E) (h : (rch j).contains 81 = true := by rfl) : E.ext 81 = some extIB := H.ex 81 _ (by simpa using h) rfl
theorem Has.x98 {j : Nat} {E : Env} (H : Has j E) (h : (rch j).contains 98 = true := by rfl) : E.ext 98 = some extCl := H.ex 98 _ (by simpa using h) rfl
theorem Has.v0 {j : Nat} {E : Env} (H : Has j E) (h : (grch j).contains 0 = true := by rfl) : E.glob 0 = globAll 0 := by cases hq : globAll 0 with | none => (cases hq) | some c => exact H.gl 0 c (by simpa using h) hq
theorem Has.v1 {j : Nat} {E : Env} (H : Has j E) (h : (grch j).contains 1 = true := by rfl) : E.glob 1 = globAll 1 := by cases hq : globAll 1 with | none => (cases hq) | some c => exact H.gl 1 c (by simpa using h) hq
theorem Has.v2 {j : Nat} {E : Env} (H : Has j E) (h : (grch j).contains 2 = true := by rfl) : E.glob 2 = globAll 2 := by cases hq : globAll 2 with | none => (cases hq) | some c => exact H.gl 2 c (by simpa using h) hq
theorem Has.v3 {j : Nat} {E : Env} (H : Has j E) (h : (grch j).contains 3 = true := by rfl) : E.glob 3 = globAll 3 := by cases hq : globAll 3 with | none => (cases hq) | some c => exact H.gl 3 c (by simpa using h) hq
theorem Has.v5 {j : Nat} {E : Env} (H : Has j E) (h : (grch j).contains 5 = true := by rfl) : E.glob 5 = globAll 5 := by cases hq : globAll 5 with | none => (cases hq) | some c => exact H.gl 5 c (by simpa using h) hq
theorem Has.v6 {j : Nat} {E : Env} (H : Has j E) (h : (grch j).contains 6 = true := by rfl) : E.glob 6 = globAll 6 := by cases hq : globAll 6 with | none => (cases hq) | some c => exact H.gl 6 c (by simpa using h) hq
theorem Has.v7 {j : Nat} {E : Env} (H : Has j E) (h : (grch j).contains 7 = true := by rfl) : E.glob 7 = globAll 7 := by cases hq : globAll 7 with | none => (cases hq) | some c => exact H.gl 7 c (by simpa using h) hq
end Go.Pv
