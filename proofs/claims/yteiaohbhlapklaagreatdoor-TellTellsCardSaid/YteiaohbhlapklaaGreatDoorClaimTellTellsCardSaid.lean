/- The statement TellTells is proved: whatever the input, the law returns true and the input reads as it did. Conditions: none. -/
import Derived.Test.YteiaohbhlapklaaGreatDoorSettPcRef7
import Derived.Test.YteiaohbhlapklaaGreatDoorSettPvArgs
import Derived.Test.YteiaohbhlapklaaGreatDoorSettSeatTryp
import Derived.Test.YteiaohbhlapklaaGreatDoorTie
import Derived.Test.YteiaohbhlapklaaGreatDoorCards
import Derived.Test.YteiaohbhlapklaaGreatDoorSettSeatExtTryp
import Derived.ProofKit
import Derived.ChangeMaps5
import Derived.LaidMore
import Derived.OpenShut
import Derived.Stop.Joined
import Derived.SevenTiedAt
import Derived.WideKeyPair
namespace Go.Proofs.YteiaohbhlapklaaGreatDoor
open Go Go.Pv Go.ChangeShapes Go.WideShapes Go.ChangeAt Go.WideMaps Go.WideElems Go.RowKit Go.ChangeMaps
def OkFn (j:Nat):Prop:=∀ sf,fnAll j = some sf→∃ K f,tT.P.funcs[tT.fnum j]? = some f∧cFunc tT K sf.mode f = some sf
theorem okOf {j:Nat} {K:Keeps} {f:Func} {s:SFunc} (h1:fnAll j = some s) (h2:tT.P.funcs[tT.fnum j]? = some f) (h3:cFunc tT K s.mode f = some s):OkFn j:=fun sf h=>by
 rw [h1] at h
 cases h
 exact ⟨K,f,h2,h3⟩
theorem o13:OkFn 13:=okOf rfl Tryz.func187 c13
theorem o19:OkFn 19:=okOf rfl Tryz.func53 c19
theorem o20:OkFn 20:=okOf rfl Tryz.func21 c20
theorem o25:OkFn 25:=okOf rfl Tryz.func95 c25
theorem o26:OkFn 26:=okOf rfl Tryz.func133 c26
theorem o30:OkFn 30:=okOf rfl Tryz.func48 c30
theorem o31:OkFn 31:=okOf rfl Tryz.func49 c31
theorem o32:OkFn 32:=okOf rfl Tryz.func50 c32
theorem o33:OkFn 33:=okOf rfl Tryz.func51 c33
theorem o37:OkFn 37:=okOf rfl Tryz.func103 c37
theorem o38:OkFn 38:=okOf rfl Tryz.func126 c38
theorem o39:OkFn 39:=okOf rfl Tryz.func158 c39
theorem o40:OkFn 40:=okOf rfl Tryz.func159 c40
theorem o41:OkFn 41:=okOf rfl Tryz.func160 c41
theorem o44:OkFn 44:=okOf rfl Tryz.func44 c44
theorem o45:OkFn 45:=okOf rfl Tryz.func75 c45
theorem o46:OkFn 46:=okOf rfl Tryz.func76 c46
theorem o47:OkFn 47:=okOf rfl Tryz.func77 c47
theorem o48:OkFn 48:=okOf rfl Tryz.func78 c48
theorem o49:OkFn 49:=okOf rfl Tryz.func79 c49
theorem o50:OkFn 50:=okOf rfl Tryz.func80 c50
theorem o51:OkFn 51:=okOf rfl Tryz.func97 c51
theorem o52:OkFn 52:=okOf rfl Tryz.func115 c52
theorem o53:OkFn 53:=okOf rfl Tryz.func124 c53
theorem o55:OkFn 55:=okOf rfl Tryz.func96 c55
theorem o56:OkFn 56:=okOf rfl Tryz.func154 c56
theorem o57:OkFn 57:=okOf rfl Tryz.func155 c57
theorem o58:OkFn 58:=okOf rfl Tryz.func156 c58
theorem o59:OkFn 59:=okOf rfl Tryz.func178 c59
theorem o60:OkFn 60:=okOf rfl Tryz.func179 c60
theorem o61:OkFn 61:=okOf rfl Tryz.func180 c61
theorem o62:OkFn 62:=okOf rfl Tryz.func106 c62
theorem o63:OkFn 63:=okOf rfl Tryz.func107 c63
theorem o64:OkFn 64:=okOf rfl Tryz.func108 c64
theorem o65:OkFn 65:=okOf rfl Tryz.func109 c65
theorem o66:OkFn 66:=okOf rfl Tryz.func110 c66
theorem o67:OkFn 67:=okOf rfl Tryz.func71 c67
theorem o68:OkFn 68:=okOf rfl Tryz.func111 c68
theorem o69:OkFn 69:=okOf rfl Tryz.func112 c69
theorem o70:OkFn 70:=okOf rfl Tryz.func113 c70
theorem o71:OkFn 71:=okOf rfl Tryz.func128 c71
theorem o72:OkFn 72:=okOf rfl Tryz.func129 c72
theorem o73:OkFn 73:=okOf rfl Tryz.func130 c73
theorem o74:OkFn 74:=okOf rfl Tryz.func147 c74
theorem o75:OkFn 75:=okOf rfl Tryz.func191 c75
theorem o76:OkFn 76:=okOf rfl Tryz.func138 c76
theorem o77:OkFn 77:=okOf rfl Tryz.func139 c77
theorem o78:OkFn 78:=okOf rfl Tryz.func140 c78
theorem o79:OkFn 79:=okOf rfl Tryz.func141 c79
theorem o80:OkFn 80:=okOf rfl Tryz.func142 c80
theorem o82:OkFn 82:=okOf rfl Tryz.func144 c82
theorem o83:OkFn 83:=okOf rfl Tryz.func145 c83
theorem o84:OkFn 84:=okOf rfl Tryz.func146 c84
theorem o85:OkFn 85:=okOf rfl Tryz.func157 c85
theorem o86:OkFn 86:=okOf rfl Tryz.func174 c86
theorem o87:OkFn 87:=okOf rfl Tryz.func175 c87
theorem o88:OkFn 88:=okOf rfl Tryz.func166 c88
theorem o89:OkFn 89:=okOf rfl Tryz.func167 c89
theorem o90:OkFn 90:=okOf rfl Tryz.func168 c90
theorem o91:OkFn 91:=okOf rfl Tryz.func169 c91
theorem o92:OkFn 92:=okOf rfl Tryz.func170 c92
theorem o94:OkFn 94:=okOf rfl Tryz.func172 c94
theorem o95:OkFn 95:=okOf rfl Tryz.func173 c95
theorem o96:OkFn 96:=okOf rfl Tryz.func183 c96
theorem o97:OkFn 97:=okOf rfl Tryz.func184 c97
theorem o99:OkFn 99:=okOf rfl Tryz.func186 c99
theorem o100:OkFn 100:=okOf rfl Tryz.func98 c100
theorem o101:OkFn 101:=okOf rfl Tryz.func188 c101
theorem o102:OkFn 102:=okOf rfl Tryz.func131 c102
theorem o103:OkFn 103:=okOf rfl Tryz.func192 c103
theorem o105:OkFn 105:=okOf rfl Tryz.func195 c105
theorem o162:OkFn 162:=okOf rfl Tryz.func52 c162
theorem o163:OkFn 163:=okOf rfl Tryz.func17 c163
theorem o164:OkFn 164:=okOf rfl Tryz.func29 c164
theorem o167:OkFn 167:=okOf rfl Tryz.func58 c167
theorem o168:OkFn 168:=okOf rfl Tryz.func45 c168
theorem o169:OkFn 169:=okOf rfl Tryz.func27 c169
theorem o170:OkFn 170:=okOf rfl Tryz.func81 c170
theorem o171:OkFn 171:=okOf rfl Tryz.func82 c171
theorem o172:OkFn 172:=okOf rfl Tryz.func26 c172
theorem o173:OkFn 173:=okOf rfl Tryz.func83 c173
theorem o174:OkFn 174:=okOf rfl Tryz.func84 c174
theorem o175:OkFn 175:=okOf rfl Tryz.func41 c175
theorem o176:OkFn 176:=okOf rfl Tryz.func55 c176
theorem o177:OkFn 177:=okOf rfl Tryz.func91 c177
theorem o178:OkFn 178:=okOf rfl Tryz.func67 c178
theorem o179:OkFn 179:=okOf rfl Tryz.func68 c179
theorem o180:OkFn 180:=okOf rfl Tryz.func69 c180
theorem o181:OkFn 181:=okOf rfl Tryz.func54 c181
theorem o182:OkFn 182:=okOf rfl Tryz.func92 c182
theorem o183:OkFn 183:=okOf rfl Tryz.func114 c183
theorem o184:OkFn 184:=okOf rfl Tryz.func116 c184
theorem o185:OkFn 185:=okOf rfl Tryz.func117 c185
theorem o186:OkFn 186:=okOf rfl Tryz.func118 c186
theorem o187:OkFn 187:=okOf rfl Tryz.func99 c187
theorem o188:OkFn 188:=okOf rfl Tryz.func119 c188
theorem o189:OkFn 189:=okOf rfl Tryz.func120 c189
theorem o190:OkFn 190:=okOf rfl Tryz.func62 c190
theorem o191:OkFn 191:=okOf rfl Tryz.func63 c191
theorem o192:OkFn 192:=okOf rfl Tryz.func64 c192
theorem o193:OkFn 193:=okOf rfl Tryz.func87 c193
theorem o194:OkFn 194:=okOf rfl Tryz.func88 c194
theorem o195:OkFn 195:=okOf rfl Tryz.func30 c195
theorem o196:OkFn 196:=okOf rfl Tryz.func89 c196
theorem o197:OkFn 197:=okOf rfl Tryz.func90 c197
theorem o198:OkFn 198:=okOf rfl Tryz.func122 c198
theorem o199:OkFn 199:=okOf rfl Tryz.func123 c199
theorem o200:OkFn 200:=okOf rfl Tryz.func100 c200
theorem o201:OkFn 201:=okOf rfl Tryz.func101 c201
theorem o203:OkFn 203:=okOf rfl Tryz.func85 c203
theorem o204:OkFn 204:=okOf rfl Tryz.func86 c204
theorem o205:OkFn 205:=okOf rfl Tryz.func93 c205
theorem o206:OkFn 206:=okOf rfl Tryz.func148 c206
theorem o207:OkFn 207:=okOf rfl Tryz.func149 c207
theorem o208:OkFn 208:=okOf rfl Tryz.func150 c208
theorem o209:OkFn 209:=okOf rfl Tryz.func151 c209
theorem o210:OkFn 210:=okOf rfl Tryz.func152 c210
theorem o212:OkFn 212:=okOf rfl Tryz.func121 c212
theorem o213:OkFn 213:=okOf rfl Tryz.func176 c213
theorem o214:OkFn 214:=okOf rfl Tryz.func177 c214
theorem o215:OkFn 215:=okOf rfl Tryz.func189 c215
theorem o216:OkFn 216:=okOf rfl Tryz.func190 c216
theorem o217:OkFn 217:=okOf rfl Tryz.func193 c217
theorem o218:OkFn 218:=okOf rfl Tryz.func194 c218
theorem o225:OkFn 225:=okOf rfl Tryz.func9 c225
theorem o235:OkFn 235:=okOf rfl Tryz.func20 c235
theorem o236:OkFn 236:=okOf rfl Tryz.func23 c236
theorem o240:OkFn 240:=okOf rfl Tryz.func32 c240
theorem o241:OkFn 241:=okOf rfl Tryz.func33 c241
theorem o242:OkFn 242:=okOf rfl Tryz.func34 c242
theorem o243:OkFn 243:=okOf rfl Tryz.func35 c243
theorem o244:OkFn 244:=okOf rfl Tryz.func36 c244
theorem o245:OkFn 245:=okOf rfl Tryz.func37 c245
theorem o246:OkFn 246:=okOf rfl Tryz.func38 c246
theorem o249:OkFn 249:=okOf rfl Tryz.func42 c249
theorem o251:OkFn 251:=okOf rfl Tryz.func46 c251
theorem o252:OkFn 252:=okOf rfl Tryz.func47 c252
theorem o253:OkFn 253:=okOf rfl Tryz.func56 c253
theorem o254:OkFn 254:=okOf rfl Tryz.func57 c254
theorem o255:OkFn 255:=okOf rfl Tryz.func59 c255
theorem o256:OkFn 256:=okOf rfl Tryz.func60 c256
theorem o258:OkFn 258:=okOf rfl Tryz.func65 c258
theorem o260:OkFn 260:=okOf rfl Tryz.func70 c260
theorem o261:OkFn 261:=okOf rfl Tryz.func72 c261
theorem o262:OkFn 262:=okOf rfl Tryz.func73 c262
theorem o263:OkFn 263:=okOf rfl Tryz.func74 c263
theorem o264:OkFn 264:=okOf rfl Tryz.func94 c264
theorem o265:OkFn 265:=okOf rfl Tryz.func105 c265
theorem o266:OkFn 266:=okOf rfl Tryz.func125 c266
theorem o267:OkFn 267:=okOf rfl Tryz.func127 c267
theorem o268:OkFn 268:=okOf rfl Tryz.func153 c268
theorem o81:OkFn 81:=fun sf h=>by cases h
theorem o98:OkFn 98:=fun sf h=>by cases h
theorem o104:OkFn 104:=fun sf h=>by cases h
theorem o202:OkFn 202:=fun sf h=>by cases h
theorem ok_rch:∀ j ∈ rch 225,OkFn j:=List.forall_mem_cons.2 ⟨o13,List.forall_mem_cons.2 ⟨o19,List.forall_mem_cons.2 ⟨o20,List.forall_mem_cons.2 ⟨o25,List.forall_mem_cons.2 ⟨o26,List.forall_mem_cons.2 ⟨o30,List.forall_mem_cons.2 ⟨o31,List.forall_mem_cons.2 ⟨o32,List.forall_mem_cons.2 ⟨o33,List.forall_mem_cons.2 ⟨o37,List.forall_mem_cons.2 ⟨o38,List.forall_mem_cons.2 ⟨o39,List.forall_mem_cons.2 ⟨o40,List.forall_mem_cons.2 ⟨o41,List.forall_mem_cons.2 ⟨o44,List.forall_mem_cons.2 ⟨o45,List.forall_mem_cons.2 ⟨o46,List.forall_mem_cons.2 ⟨o47,List.forall_mem_cons.2 ⟨o48,List.forall_mem_cons.2 ⟨o49,List.forall_mem_cons.2 ⟨o50,List.forall_mem_cons.2 ⟨o51,List.forall_mem_cons.2 ⟨o52,List.forall_mem_cons.2 ⟨o53,List.forall_mem_cons.2 ⟨o55,List.forall_mem_cons.2 ⟨o56,List.forall_mem_cons.2 ⟨o57,List.forall_mem_cons.2 ⟨o58,List.forall_mem_cons.2 ⟨o59,List.forall_mem_cons.2 ⟨o60,List.forall_mem_cons.2 ⟨o61,List.forall_mem_cons.2 ⟨o62,List.forall_mem_cons.2 ⟨o63,List.forall_mem_cons.2 ⟨o64,List.forall_mem_cons.2 ⟨o65,List.forall_mem_cons.2 ⟨o66,List.forall_mem_cons.2 ⟨o67,List.forall_mem_cons.2 ⟨o68,List.forall_mem_cons.2 ⟨o69,List.forall_mem_cons.2 ⟨o70,List.forall_mem_cons.2 ⟨o71,List.forall_mem_cons.2 ⟨o72,List.forall_mem_cons.2 ⟨o73,List.forall_mem_cons.2 ⟨o74,List.forall_mem_cons.2 ⟨o75,List.forall_mem_cons.2 ⟨o76,List.forall_mem_cons.2 ⟨o77,List.forall_mem_cons.2 ⟨o78,List.forall_mem_cons.2 ⟨o79,List.forall_mem_cons.2 ⟨o80,List.forall_mem_cons.2 ⟨o81,List.forall_mem_cons.2 ⟨o82,List.forall_mem_cons.2 ⟨o83,List.forall_mem_cons.2 ⟨o84,List.forall_mem_cons.2 ⟨o85,List.forall_mem_cons.2 ⟨o86,List.forall_mem_cons.2 ⟨o87,List.forall_mem_cons.2 ⟨o88,List.forall_mem_cons.2 ⟨o89,List.forall_mem_cons.2 ⟨o90,List.forall_mem_cons.2 ⟨o91,List.forall_mem_cons.2 ⟨o92,List.forall_mem_cons.2 ⟨o94,List.forall_mem_cons.2 ⟨o95,List.forall_mem_cons.2 ⟨o96,List.forall_mem_cons.2 ⟨o97,List.forall_mem_cons.2 ⟨o98,List.forall_mem_cons.2 ⟨o99,List.forall_mem_cons.2 ⟨o100,List.forall_mem_cons.2 ⟨o101,List.forall_mem_cons.2 ⟨o102,List.forall_mem_cons.2 ⟨o103,List.forall_mem_cons.2 ⟨o104,List.forall_mem_cons.2 ⟨o105,List.forall_mem_cons.2 ⟨o162,List.forall_mem_cons.2 ⟨o163,List.forall_mem_cons.2 ⟨o164,List.forall_mem_cons.2 ⟨o167,List.forall_mem_cons.2 ⟨o168,List.forall_mem_cons.2 ⟨o169,List.forall_mem_cons.2 ⟨o170,List.forall_mem_cons.2 ⟨o171,List.forall_mem_cons.2 ⟨o172,List.forall_mem_cons.2 ⟨o173,List.forall_mem_cons.2 ⟨o174,List.forall_mem_cons.2 ⟨o175,List.forall_mem_cons.2 ⟨o176,List.forall_mem_cons.2 ⟨o177,List.forall_mem_cons.2 ⟨o178,List.forall_mem_cons.2 ⟨o179,List.forall_mem_cons.2 ⟨o180,List.forall_mem_cons.2 ⟨o181,List.forall_mem_cons.2 ⟨o182,List.forall_mem_cons.2 ⟨o183,List.forall_mem_cons.2 ⟨o184,List.forall_mem_cons.2 ⟨o185,List.forall_mem_cons.2 ⟨o186,List.forall_mem_cons.2 ⟨o187,List.forall_mem_cons.2 ⟨o188,List.forall_mem_cons.2 ⟨o189,List.forall_mem_cons.2 ⟨o190,List.forall_mem_cons.2 ⟨o191,List.forall_mem_cons.2 ⟨o192,List.forall_mem_cons.2 ⟨o193,List.forall_mem_cons.2 ⟨o194,List.forall_mem_cons.2 ⟨o195,List.forall_mem_cons.2 ⟨o196,List.forall_mem_cons.2 ⟨o197,List.forall_mem_cons.2 ⟨o198,List.forall_mem_cons.2 ⟨o199,List.forall_mem_cons.2 ⟨o200,List.forall_mem_cons.2 ⟨o201,List.forall_mem_cons.2 ⟨o202,List.forall_mem_cons.2 ⟨o203,List.forall_mem_cons.2 ⟨o204,List.forall_mem_cons.2 ⟨o205,List.forall_mem_cons.2 ⟨o206,List.forall_mem_cons.2 ⟨o207,List.forall_mem_cons.2 ⟨o208,List.forall_mem_cons.2 ⟨o209,List.forall_mem_cons.2 ⟨o210,List.forall_mem_cons.2 ⟨o212,List.forall_mem_cons.2 ⟨o213,List.forall_mem_cons.2 ⟨o214,List.forall_mem_cons.2 ⟨o215,List.forall_mem_cons.2 ⟨o216,List.forall_mem_cons.2 ⟨o217,List.forall_mem_cons.2 ⟨o218,List.forall_mem_cons.2 ⟨o225,List.forall_mem_cons.2 ⟨o235,List.forall_mem_cons.2 ⟨o236,List.forall_mem_cons.2 ⟨o240,List.forall_mem_cons.2 ⟨o241,List.forall_mem_cons.2 ⟨o242,List.forall_mem_cons.2 ⟨o243,List.forall_mem_cons.2 ⟨o244,List.forall_mem_cons.2 ⟨o245,List.forall_mem_cons.2 ⟨o246,List.forall_mem_cons.2 ⟨o249,List.forall_mem_cons.2 ⟨o251,List.forall_mem_cons.2 ⟨o252,List.forall_mem_cons.2 ⟨o253,List.forall_mem_cons.2 ⟨o254,List.forall_mem_cons.2 ⟨o255,List.forall_mem_cons.2 ⟨o256,List.forall_mem_cons.2 ⟨o258,List.forall_mem_cons.2 ⟨o260,List.forall_mem_cons.2 ⟨o261,List.forall_mem_cons.2 ⟨o262,List.forall_mem_cons.2 ⟨o263,List.forall_mem_cons.2 ⟨o264,List.forall_mem_cons.2 ⟨o265,List.forall_mem_cons.2 ⟨o266,List.forall_mem_cons.2 ⟨o267,List.forall_mem_cons.2 ⟨o268,List.forall_mem_nil _⟩⟩⟩⟩⟩⟩⟩⟩⟩⟩⟩⟩⟩⟩⟩⟩⟩⟩⟩⟩⟩⟩⟩⟩⟩⟩⟩⟩⟩⟩⟩⟩⟩⟩⟩⟩⟩⟩⟩⟩⟩⟩⟩⟩⟩⟩⟩⟩⟩⟩⟩⟩⟩⟩⟩⟩⟩⟩⟩⟩⟩⟩⟩⟩⟩⟩⟩⟩⟩⟩⟩⟩⟩⟩⟩⟩⟩⟩⟩⟩⟩⟩⟩⟩⟩⟩⟩⟩⟩⟩⟩⟩⟩⟩⟩⟩⟩⟩⟩⟩⟩⟩⟩⟩⟩⟩⟩⟩⟩⟩⟩⟩⟩⟩⟩⟩⟩⟩⟩⟩⟩⟩⟩⟩⟩⟩⟩⟩⟩⟩⟩⟩⟩⟩⟩⟩⟩⟩⟩⟩⟩⟩⟩⟩⟩⟩⟩⟩⟩⟩⟩⟩⟩⟩⟩
def EN:Env:={ fn:=fun j=>if (rch 225).contains j then fnAll j else none,glob:=globAll,ext:=fun j=>if (rch 225).contains j then extAll j else none }
theorem EN_code {k:Nat} {f:SFunc} (hk:k ∈ rch 225) (hf:fnAll k = some f):EN.code k = some f:=by
 have hx:extAll k = none:=by
  unfold extAll
  split <;> first | rfl | cases hf
 simp [Env.code,EN,hk,hf,hx]
theorem hasN:Has 225 EN where
 fn:=fun k f hk hf=>EN_code hk hf
 gl:=fun g cs hg hc=>hc
 ex:=fun k g hk hg=>by simp [EN,hk,hg]
theorem okN:EnvOk tT EN where
 mix:=by kernel_rfl
 fn:=fun j sf h=>by
  simp only [EN] at h
  split at h
  ·rename_i hc
   exact ok_rch j (by simpa using hc) sf h
  ·cases h
 glob:=fun g cs h=>shut7 g cs h
 ext:=fun j g h=>by
  simp only [EN] at h
  split at h
  ·rename_i hc
   unfold extAll at h
   split at h
   ·cases h
    exact ⟨_,_,Tryz.func143,rfl,by decide,ext81⟩
   ·cases h
    exact ⟨_,_,Tryz.func185,rfl,by decide,ext98⟩
   ·cases h
    exact ⟨_,_,Tryz.func104,rfl,by decide,ext104 rfl⟩
   ·cases h
    exact ⟨_,_,Tryz.func102,rfl,by decide,ext202⟩
   ·cases h
  ·cases h
theorem glob_of {W:World} (h:laidMetH Tryz.prog laid7 W):∀ g cs,EN.glob g = some cs→∃ c e fz l,W.heap[tT.gnum g]? = some (.cells c e fz)∧RepL tT (Ghost.met W) W cs l∧(∀ (i:Nat) (v:Value),l[i]? = some v→c[i]? = some v)∧c.size = l.length:=glob_of7 h
theorem callsN {W:World} (h:laidMetH Tryz.prog laid7 W) {l:List Value} (x0_0 x0_1:Int) (s1:List UInt8) {a2:AV} {L2:List Int} (hL2:IntsV a2 L2) (hl:RepL tT (Ghost.met W) W [.agg [.int .i64 x0_0,.int .i64 x0_1],.str s1,a2] l):
  Calls Tryz.prog 9 ⟨l⟩ W fun e W'=>e = .returned (.bool true)∧W.keptBut W' (fun _=>False):=by
 have hc:=calls_of (T:=tT) okN (tellTells_eq hasN x0_0 x0_1 s1 hL2) (inv_met (glob_of h)) hl
 refine hc.mono fun e W' ⟨u,G',h1,h2,h3⟩=>⟨?_,kept_of_ext h3 _⟩
 rw [h1]
 simp only [RepV] at h2
 rw [h2]
theorem ints_cell:tT.P.cellsOf 3 = 1:=by kernel_rfl
theorem ints2_cells:tT.P.cellsOf 60 = 2:=by kernel_rfl
set_option maxRecDepth 100000 in
theorem tellTells_lifted (os:Os) (started:os.Started) (H:Type) (enc:TypeId × Value→H):
  ReturnsInHanded {} Tryz.checked os 9 .any (fun w args=>(Rows.tellTellsSpec.pre enc Tryz.prog Tryz.f9 [] false w args∧laidMetH Tryz.prog laid7 w)∧sizedMet enc Tryz.prog Tryz.f9 (OpenSpec.ofChange Rows.tellTellsSpec) false w args)
   (Rows.tellTellsSpec.post enc Tryz.prog Tryz.f9 false true false false):=by
 refine returnsInHanded_of_change_and (C:=Tryz.checked) (X:=fun w _=>laidMetH Tryz.prog laid7 w) (fun _ _ _ hh h=>h.of_heap hh) own started (by kernel_rfl) Tryz.func9
  (ChangeSpec.witness_shaped (enc:=enc) (C:=Tryz.checked) (os:=os) (X:=fun w _=>laidMetH Tryz.prog laid7 w) false (World.doorLaid Tryz.prog 4000 os) #[.agg #[.int .i64 0,.int .i64 0],.string ⟨#[]⟩,.slice none 0 0] 8 rfl (World.shaped_of_RefB (by kernel_rfl) (by kernel_rfl)) (by kernel_rfl) (by kernel_rfl) (by kernel_rfl) (door_met7 os _)) ?_
 intro W base args ds gs before hval0 hW _ _ hL _
 have hval:∀ (j:Nat) t v,Tryz.f9.params[j]? = some t→args[j]? = some v→Value.okWide Tryz.prog W .any base t v:=hval0
 have hW':=hW
 obtain ⟨p,q,hA0,hV,rfl,hfz,hnd⟩:=hW
 have hA:DataW.TrodAll enc Tryz.prog W 0 (fun _=>true) true Tryz.f9.params.toList args.toList ds p:=hA0
 rw [Tryz.params9] at hA hval
 obtain ⟨v0,v1,v2,d0,d1,d2,p0,p1,p2,rfl,rfl,rfl,h0,h1,h2⟩:=trodAll_three hA
 obtain ⟨rfl,rfl⟩:=trodVars_none hV
 obtain ⟨x0_0,x0_1,A0⟩:=arg_ints2 (T:=tT) Tryz.underlying60 ints2_cells Tryz.underlying3 ints_cell (hval 0 60 v0 rfl rfl) h0
 obtain ⟨s1,A1⟩:=arg_string (T:=tT) Tryz.underlying9 (hval 1 9 v1 rfl rfl) h1
 obtain ⟨L2,a2,hL2,A2⟩:=arg_ints (T:=tT) Tryz.underlying22 Tryz.underlying3 ints_cell (hval 2 22 v2 rfl rfl) h2
 clear hA0 hval0
 refine (callsN hL (l:=[v0,v1,v2]) x0_0 x0_1 s1 hL2 ⟨_,_,rfl,A0.rep,_,_,rfl,A1.rep,_,_,rfl,A2.rep,rfl⟩).mono fun e W' ⟨he,hk⟩=>?_
 subst he
 refine ⟨_,rfl,post_kept hW' (fun _ _ _=>trodAll_mk1 (shut_bool Tryz.underlying4 _)) (fun sp hsp=>?_) (fun _=>rfl) hk
  (ok_one (by kernel_rfl) rfl (okWide_bool_mk Tryz.underlying4 _))⟩
 have S0:=A0.shut W' hk sp (fun p hp=>hsp p (List.mem_append_left _ (List.mem_append_left _ (List.mem_append_left _ hp))))
 have S1:=A1.shut W' hk sp (fun p hp=>hsp p (List.mem_append_left _ (List.mem_append_left _ (List.mem_append_right _ hp))))
 have S2:=A2.shut W' hk sp (fun p hp=>hsp p (List.mem_append_left _ (List.mem_append_right _ hp)))
 have S:=trodAll_mk3 S0 S1 S2
 have e:p0++p1++p2++[] = p0++(p1++p2):=by rw [List.append_nil,List.append_assoc]
 rw [e]
 exact S
theorem tellTells_holds:Rows.TellTellsSaid:=
 OpenClaim.holds_of_wide 9 Tryz.f9 rfl rfl rfl rfl rfl rfl rfl ⟨rfl,rfl,rfl,rfl,rfl⟩ rfl rfl rfl rfl rfl (by kernel_rfl) Tryz.func9 (by kernel_rfl)
  (of_decide_eq_true (by kernel_rfl)) (by unfold Func.isWrapper; first | (rw [if_pos (by decide +kernel)]; kernel_rfl) | (rw [if_neg (by decide +kernel)]; exact ⟨rfl,rfl⟩))
  (fun os started H enc _=>tellTells_lifted os started H enc)
theorem tellTells_card:Rows.TellTellsCardSaid:=
 Claim7.holds_tied_plain_at .later [] [.data, .data, .data, .sentinel, .sentinel, .widerDeep, .data] true (true, "766d7e2be7c9f412d2a77aea66ef5b580f147dcc7ebb4200a1b2b1bc03018fb9") true
  tellTells_holds (fun _ h=>by cases h) (by kernel_rfl) (fun _ h=>by cases h) tellTells_row_tie rfl ⟨rfl,rfl⟩ (by kernel_rfl) rfl
  (fun f fn hf hfn=>by
   obtain rfl : f = 9 := Option.some.inj ((show Tryz.prog.funcNamed "drachm/drachmlaw13.TellTells" = some 9 by kernel_rfl).symm.trans hf) |>.symm
   obtain rfl:fn = Tryz.f9:=(Option.some.inj (Tryz.func9.symm.trans hfn)).symm
   exact ⟨by kernel_rfl,fun j t ht=>by
    rw [Tryz.params9] at ht
    have h3:t = 9∨t = 22∨t = 60:=by
     rcases j with _ | _ | _ | j
     ·exact .inr (.inr ((by simpa using ht.symm)))
     ·exact .inl (by simpa using ht.symm)
     ·exact .inr (.inl (by simpa using ht.symm))
     ·simp at ht
    rcases h3 with rfl | rfl | rfl
    ·exact (show Tryz.prog.wantsStandIn 9 = false by kernel_rfl)
    ·exact (show Tryz.prog.wantsStandIn 22 = false by kernel_rfl)
    ·exact (show Tryz.prog.wantsStandIn 60 = false by kernel_rfl)⟩)
  (by kernel_rfl)
#print axioms tellTells_card
end Go.Proofs.YteiaohbhlapklaaGreatDoor
