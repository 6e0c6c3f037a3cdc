/- The statement EvalWhole is proved: whatever the input, the law returns true and the input reads as it did. Conditions: none. -/
import Derived.Test.YtamopjeecnhfaaaGreatDoorSetwPcEv22
import Derived.Test.YtamopjeecnhfaaaGreatDoorSetwSeatTrye
import Derived.Test.YtamopjeecnhfaaaGreatDoorTie
import Derived.Test.YtamopjeecnhfaaaGreatDoorCards
import Derived.Test.YtamopjeecnhfaaaGreatDoorSetwSeatExtTrye
import Derived.ProofKit
import Derived.ChangeMaps5
import Derived.LaidMore
import Derived.OpenShut
import Derived.Stop.Joined
import Derived.SevenTiedAt
import Derived.WideKeyPair
namespace Go.Proofs.YtamopjeecnhfaaaGreatDoor
open Go Go.Pv Go.ChangeShapes Go.WideShapes Go.ChangeAt Go.WideMaps Go.WideElems Go.RowKit Go.ChangeMaps
def OkFn (j:Nat):Prop:=∀ sf,fnAll j = some sf→∃ K f,tT.P.funcs[tT.fnum j]? = some f∧cFunc tT K sf.mode f = some sf
theorem okOf {j:Nat} {K:Keeps} {f:Func} {s:SFunc} (h1:fnAll j = some s) (h2:tT.P.funcs[tT.fnum j]? = some f) (h3:cFunc tT K s.mode f = some s):OkFn j:=fun sf h=>by
 rw [h1] at h
 cases h
 exact ⟨K,f,h2,h3⟩
theorem o13:OkFn 13:=okOf rfl Tryz.func162 c13
theorem o20:OkFn 20:=okOf rfl Tryz.func16 c20
theorem o25:OkFn 25:=okOf rfl Tryz.func165 c25
theorem o26:OkFn 26:=okOf rfl Tryz.func166 c26
theorem o30:OkFn 30:=okOf rfl Tryz.func28 c30
theorem o31:OkFn 31:=okOf rfl Tryz.func29 c31
theorem o32:OkFn 32:=okOf rfl Tryz.func30 c32
theorem o33:OkFn 33:=okOf rfl Tryz.func31 c33
theorem o38:OkFn 38:=okOf rfl Tryz.func49 c38
theorem o39:OkFn 39:=okOf rfl Tryz.func169 c39
theorem o40:OkFn 40:=okOf rfl Tryz.func170 c40
theorem o41:OkFn 41:=okOf rfl Tryz.func171 c41
theorem o44:OkFn 44:=okOf rfl Tryz.func57 c44
theorem o45:OkFn 45:=okOf rfl Tryz.func58 c45
theorem o46:OkFn 46:=okOf rfl Tryz.func59 c46
theorem o47:OkFn 47:=okOf rfl Tryz.func60 c47
theorem o48:OkFn 48:=okOf rfl Tryz.func61 c48
theorem o49:OkFn 49:=okOf rfl Tryz.func62 c49
theorem o50:OkFn 50:=okOf rfl Tryz.func63 c50
theorem o51:OkFn 51:=okOf rfl Tryz.func23 c51
theorem o56:OkFn 56:=okOf rfl Tryz.func91 c56
theorem o57:OkFn 57:=okOf rfl Tryz.func92 c57
theorem o58:OkFn 58:=okOf rfl Tryz.func93 c58
theorem o59:OkFn 59:=okOf rfl Tryz.func177 c59
theorem o60:OkFn 60:=okOf rfl Tryz.func178 c60
theorem o61:OkFn 61:=okOf rfl Tryz.func179 c61
theorem o62:OkFn 62:=okOf rfl Tryz.func100 c62
theorem o63:OkFn 63:=okOf rfl Tryz.func101 c63
theorem o64:OkFn 64:=okOf rfl Tryz.func102 c64
theorem o65:OkFn 65:=okOf rfl Tryz.func103 c65
theorem o66:OkFn 66:=okOf rfl Tryz.func104 c66
theorem o67:OkFn 67:=okOf rfl Tryz.func105 c67
theorem o68:OkFn 68:=okOf rfl Tryz.func106 c68
theorem o69:OkFn 69:=okOf rfl Tryz.func107 c69
theorem o70:OkFn 70:=okOf rfl Tryz.func108 c70
theorem o71:OkFn 71:=okOf rfl Tryz.func45 c71
theorem o72:OkFn 72:=okOf rfl Tryz.func46 c72
theorem o73:OkFn 73:=okOf rfl Tryz.func47 c73
theorem o75:OkFn 75:=okOf rfl Tryz.func185 c75
theorem o76:OkFn 76:=okOf rfl Tryz.func130 c76
theorem o77:OkFn 77:=okOf rfl Tryz.func131 c77
theorem o78:OkFn 78:=okOf rfl Tryz.func132 c78
theorem o79:OkFn 79:=okOf rfl Tryz.func133 c79
theorem o80:OkFn 80:=okOf rfl Tryz.func134 c80
theorem o82:OkFn 82:=okOf rfl Tryz.func136 c82
theorem o83:OkFn 83:=okOf rfl Tryz.func137 c83
theorem o84:OkFn 84:=okOf rfl Tryz.func138 c84
theorem o85:OkFn 85:=okOf rfl Tryz.func87 c85
theorem o88:OkFn 88:=okOf rfl Tryz.func147 c88
theorem o89:OkFn 89:=okOf rfl Tryz.func148 c89
theorem o90:OkFn 90:=okOf rfl Tryz.func149 c90
theorem o91:OkFn 91:=okOf rfl Tryz.func150 c91
theorem o92:OkFn 92:=okOf rfl Tryz.func151 c92
theorem o94:OkFn 94:=okOf rfl Tryz.func153 c94
theorem o95:OkFn 95:=okOf rfl Tryz.func154 c95
theorem o96:OkFn 96:=okOf rfl Tryz.func157 c96
theorem o97:OkFn 97:=okOf rfl Tryz.func158 c97
theorem o99:OkFn 99:=okOf rfl Tryz.func160 c99
theorem o100:OkFn 100:=okOf rfl Tryz.func161 c100
theorem o101:OkFn 101:=okOf rfl Tryz.func163 c101
theorem o102:OkFn 102:=okOf rfl Tryz.func164 c102
theorem o103:OkFn 103:=okOf rfl Tryz.func167 c103
theorem o105:OkFn 105:=okOf rfl Tryz.func172 c105
theorem o163:OkFn 163:=okOf rfl Tryz.func13 c163
theorem o168:OkFn 168:=okOf rfl Tryz.func34 c168
theorem o175:OkFn 175:=okOf rfl Tryz.func26 c175
theorem o178:OkFn 178:=okOf rfl Tryz.func67 c178
theorem o179:OkFn 179:=okOf rfl Tryz.func68 c179
theorem o180:OkFn 180:=okOf rfl Tryz.func69 c180
theorem o190:OkFn 190:=okOf rfl Tryz.func52 c190
theorem o191:OkFn 191:=okOf rfl Tryz.func53 c191
theorem o192:OkFn 192:=okOf rfl Tryz.func54 c192
theorem o200:OkFn 200:=okOf rfl Tryz.func111 c200
theorem o201:OkFn 201:=okOf rfl Tryz.func112 c201
theorem o271:OkFn 271:=okOf rfl Tryz.func5 c271
theorem o278:OkFn 278:=okOf rfl Tryz.func12 c278
theorem o283:OkFn 283:=okOf rfl Tryz.func19 c283
theorem o284:OkFn 284:=okOf rfl Tryz.func20 c284
theorem o285:OkFn 285:=okOf rfl Tryz.func21 c285
theorem o286:OkFn 286:=okOf rfl Tryz.func22 c286
theorem o287:OkFn 287:=okOf rfl Tryz.func24 c287
theorem o288:OkFn 288:=okOf rfl Tryz.func25 c288
theorem o292:OkFn 292:=okOf rfl Tryz.func35 c292
theorem o293:OkFn 293:=okOf rfl Tryz.func36 c293
theorem o294:OkFn 294:=okOf rfl Tryz.func37 c294
theorem o295:OkFn 295:=okOf rfl Tryz.func38 c295
theorem o296:OkFn 296:=okOf rfl Tryz.func39 c296
theorem o297:OkFn 297:=okOf rfl Tryz.func40 c297
theorem o298:OkFn 298:=okOf rfl Tryz.func41 c298
theorem o299:OkFn 299:=okOf rfl Tryz.func42 c299
theorem o300:OkFn 300:=okOf rfl Tryz.func43 c300
theorem o301:OkFn 301:=okOf rfl Tryz.func44 c301
theorem o302:OkFn 302:=okOf rfl Tryz.func48 c302
theorem o303:OkFn 303:=okOf rfl Tryz.func50 c303
theorem o304:OkFn 304:=okOf rfl Tryz.func51 c304
theorem o308:OkFn 308:=okOf rfl Tryz.func70 c308
theorem o309:OkFn 309:=okOf rfl Tryz.func71 c309
theorem o310:OkFn 310:=okOf rfl Tryz.func72 c310
theorem o311:OkFn 311:=okOf rfl Tryz.func73 c311
theorem o312:OkFn 312:=okOf rfl Tryz.func74 c312
theorem o313:OkFn 313:=okOf rfl Tryz.func75 c313
theorem o314:OkFn 314:=okOf rfl Tryz.func76 c314
theorem o315:OkFn 315:=okOf rfl Tryz.func77 c315
theorem o316:OkFn 316:=okOf rfl Tryz.func78 c316
theorem o317:OkFn 317:=okOf rfl Tryz.func79 c317
theorem o318:OkFn 318:=okOf rfl Tryz.func80 c318
theorem o319:OkFn 319:=okOf rfl Tryz.func81 c319
theorem o320:OkFn 320:=okOf rfl Tryz.func82 c320
theorem o321:OkFn 321:=okOf rfl Tryz.func83 c321
theorem o322:OkFn 322:=okOf rfl Tryz.func84 c322
theorem o323:OkFn 323:=okOf rfl Tryz.func85 c323
theorem o324:OkFn 324:=okOf rfl Tryz.func86 c324
theorem o325:OkFn 325:=okOf rfl Tryz.func88 c325
theorem o326:OkFn 326:=okOf rfl Tryz.func89 c326
theorem o327:OkFn 327:=okOf rfl Tryz.func90 c327
theorem o328:OkFn 328:=okOf rfl Tryz.func94 c328
theorem o329:OkFn 329:=okOf rfl Tryz.func95 c329
theorem o330:OkFn 330:=okOf rfl Tryz.func96 c330
theorem o331:OkFn 331:=okOf rfl Tryz.func97 c331
theorem o334:OkFn 334:=okOf rfl Tryz.func114 c334
theorem o335:OkFn 335:=okOf rfl Tryz.func115 c335
theorem o336:OkFn 336:=okOf rfl Tryz.func116 c336
theorem o337:OkFn 337:=okOf rfl Tryz.func117 c337
theorem o338:OkFn 338:=okOf rfl Tryz.func118 c338
theorem o339:OkFn 339:=okOf rfl Tryz.func119 c339
theorem o340:OkFn 340:=okOf rfl Tryz.func120 c340
theorem o341:OkFn 341:=okOf rfl Tryz.func121 c341
theorem o342:OkFn 342:=okOf rfl Tryz.func122 c342
theorem o343:OkFn 343:=okOf rfl Tryz.func123 c343
theorem o344:OkFn 344:=okOf rfl Tryz.func124 c344
theorem o345:OkFn 345:=okOf rfl Tryz.func125 c345
theorem o346:OkFn 346:=okOf rfl Tryz.func126 c346
theorem o347:OkFn 347:=okOf rfl Tryz.func127 c347
theorem o348:OkFn 348:=okOf rfl Tryz.func128 c348
theorem o349:OkFn 349:=okOf rfl Tryz.func140 c349
theorem o350:OkFn 350:=okOf rfl Tryz.func141 c350
theorem o351:OkFn 351:=okOf rfl Tryz.func142 c351
theorem o352:OkFn 352:=okOf rfl Tryz.func143 c352
theorem o353:OkFn 353:=okOf rfl Tryz.func144 c353
theorem o354:OkFn 354:=okOf rfl Tryz.func145 c354
theorem o355:OkFn 355:=okOf rfl Tryz.func146 c355
theorem o356:OkFn 356:=okOf rfl Tryz.func155 c356
theorem o357:OkFn 357:=okOf rfl Tryz.func156 c357
theorem o81:OkFn 81:=fun sf h=>by cases h
theorem o98:OkFn 98:=fun sf h=>by cases h
theorem o104:OkFn 104:=fun sf h=>by cases h
theorem o202:OkFn 202:=fun sf h=>by cases h
theorem ok_rch:∀ j ∈ rch 271,OkFn j:=List.forall_mem_cons.2 ⟨o13,List.forall_mem_cons.2 ⟨o20,List.forall_mem_cons.2 ⟨o25,List.forall_mem_cons.2 ⟨o26,List.forall_mem_cons.2 ⟨o30,List.forall_mem_cons.2 ⟨o31,List.forall_mem_cons.2 ⟨o32,List.forall_mem_cons.2 ⟨o33,List.forall_mem_cons.2 ⟨o38,List.forall_mem_cons.2 ⟨o39,List.forall_mem_cons.2 ⟨o40,List.forall_mem_cons.2 ⟨o41,List.forall_mem_cons.2 ⟨o44,List.forall_mem_cons.2 ⟨o45,List.forall_mem_cons.2 ⟨o46,List.forall_mem_cons.2 ⟨o47,List.forall_mem_cons.2 ⟨o48,List.forall_mem_cons.2 ⟨o49,List.forall_mem_cons.2 ⟨o50,List.forall_mem_cons.2 ⟨o51,List.forall_mem_cons.2 ⟨o56,List.forall_mem_cons.2 ⟨o57,List.forall_mem_cons.2 ⟨o58,List.forall_mem_cons.2 ⟨o59,List.forall_mem_cons.2 ⟨o60,List.forall_mem_cons.2 ⟨o61,List.forall_mem_cons.2 ⟨o62,List.forall_mem_cons.2 ⟨o63,List.forall_mem_cons.2 ⟨o64,List.forall_mem_cons.2 ⟨o65,List.forall_mem_cons.2 ⟨o66,List.forall_mem_cons.2 ⟨o67,List.forall_mem_cons.2 ⟨o68,List.forall_mem_cons.2 ⟨o69,List.forall_mem_cons.2 ⟨o70,List.forall_mem_cons.2 ⟨o71,List.forall_mem_cons.2 ⟨o72,List.forall_mem_cons.2 ⟨o73,List.forall_mem_cons.2 ⟨o75,List.forall_mem_cons.2 ⟨o76,List.forall_mem_cons.2 ⟨o77,List.forall_mem_cons.2 ⟨o78,List.forall_mem_cons.2 ⟨o79,List.forall_mem_cons.2 ⟨o80,List.forall_mem_cons.2 ⟨o81,List.forall_mem_cons.2 ⟨o82,List.forall_mem_cons.2 ⟨o83,List.forall_mem_cons.2 ⟨o84,List.forall_mem_cons.2 ⟨o85,List.forall_mem_cons.2 ⟨o88,List.forall_mem_cons.2 ⟨o89,List.forall_mem_cons.2 ⟨o90,List.forall_mem_cons.2 ⟨o91,List.forall_mem_cons.2 ⟨o92,List.forall_mem_cons.2 ⟨o94,List.forall_mem_cons.2 ⟨o95,List.forall_mem_cons.2 ⟨o96,List.forall_mem_cons.2 ⟨o97,List.forall_mem_cons.2 ⟨o98,List.forall_mem_cons.2 ⟨o99,List.forall_mem_cons.2 ⟨o100,List.forall_mem_cons.2 ⟨o101,List.forall_mem_cons.2 ⟨o102,List.forall_mem_cons.2 ⟨o103,List.forall_mem_cons.2 ⟨o104,List.forall_mem_cons.2 ⟨o105,List.forall_mem_cons.2 ⟨o163,List.forall_mem_cons.2 ⟨o168,List.forall_mem_cons.2 ⟨o175,List.forall_mem_cons.2 ⟨o178,List.forall_mem_cons.2 ⟨o179,List.forall_mem_cons.2 ⟨o180,List.forall_mem_cons.2 ⟨o190,List.forall_mem_cons.2 ⟨o191,List.forall_mem_cons.2 ⟨o192,List.forall_mem_cons.2 ⟨o200,List.forall_mem_cons.2 ⟨o201,List.forall_mem_cons.2 ⟨o202,List.forall_mem_cons.2 ⟨o271,List.forall_mem_cons.2 ⟨o278,List.forall_mem_cons.2 ⟨o283,List.forall_mem_cons.2 ⟨o284,List.forall_mem_cons.2 ⟨o285,List.forall_mem_cons.2 ⟨o286,List.forall_mem_cons.2 ⟨o287,List.forall_mem_cons.2 ⟨o288,List.forall_mem_cons.2 ⟨o292,List.forall_mem_cons.2 ⟨o293,List.forall_mem_cons.2 ⟨o294,List.forall_mem_cons.2 ⟨o295,List.forall_mem_cons.2 ⟨o296,List.forall_mem_cons.2 ⟨o297,List.forall_mem_cons.2 ⟨o298,List.forall_mem_cons.2 ⟨o299,List.forall_mem_cons.2 ⟨o300,List.forall_mem_cons.2 ⟨o301,List.forall_mem_cons.2 ⟨o302,List.forall_mem_cons.2 ⟨o303,List.forall_mem_cons.2 ⟨o304,List.forall_mem_cons.2 ⟨o308,List.forall_mem_cons.2 ⟨o309,List.forall_mem_cons.2 ⟨o310,List.forall_mem_cons.2 ⟨o311,List.forall_mem_cons.2 ⟨o312,List.forall_mem_cons.2 ⟨o313,List.forall_mem_cons.2 ⟨o314,List.forall_mem_cons.2 ⟨o315,List.forall_mem_cons.2 ⟨o316,List.forall_mem_cons.2 ⟨o317,List.forall_mem_cons.2 ⟨o318,List.forall_mem_cons.2 ⟨o319,List.forall_mem_cons.2 ⟨o320,List.forall_mem_cons.2 ⟨o321,List.forall_mem_cons.2 ⟨o322,List.forall_mem_cons.2 ⟨o323,List.forall_mem_cons.2 ⟨o324,List.forall_mem_cons.2 ⟨o325,List.forall_mem_cons.2 ⟨o326,List.forall_mem_cons.2 ⟨o327,List.forall_mem_cons.2 ⟨o328,List.forall_mem_cons.2 ⟨o329,List.forall_mem_cons.2 ⟨o330,List.forall_mem_cons.2 ⟨o331,List.forall_mem_cons.2 ⟨o334,List.forall_mem_cons.2 ⟨o335,List.forall_mem_cons.2 ⟨o336,List.forall_mem_cons.2 ⟨o337,List.forall_mem_cons.2 ⟨o338,List.forall_mem_cons.2 ⟨o339,List.forall_mem_cons.2 ⟨o340,List.forall_mem_cons.2 ⟨o341,List.forall_mem_cons.2 ⟨o342,List.forall_mem_cons.2 ⟨o343,List.forall_mem_cons.2 ⟨o344,List.forall_mem_cons.2 ⟨o345,List.forall_mem_cons.2 ⟨o346,List.forall_mem_cons.2 ⟨o347,List.forall_mem_cons.2 ⟨o348,List.forall_mem_cons.2 ⟨o349,List.forall_mem_cons.2 ⟨o350,List.forall_mem_cons.2 ⟨o351,List.forall_mem_cons.2 ⟨o352,List.forall_mem_cons.2 ⟨o353,List.forall_mem_cons.2 ⟨o354,List.forall_mem_cons.2 ⟨o355,List.forall_mem_cons.2 ⟨o356,List.forall_mem_cons.2 ⟨o357,List.forall_mem_nil _⟩⟩⟩⟩⟩⟩⟩⟩⟩⟩⟩⟩⟩⟩⟩⟩⟩⟩⟩⟩⟩⟩⟩⟩⟩⟩⟩⟩⟩⟩⟩⟩⟩⟩⟩⟩⟩⟩⟩⟩⟩⟩⟩⟩⟩⟩⟩⟩⟩⟩⟩⟩⟩⟩⟩⟩⟩⟩⟩⟩⟩⟩⟩⟩⟩⟩⟩⟩⟩⟩⟩⟩⟩⟩⟩⟩⟩⟩⟩⟩⟩⟩⟩⟩⟩⟩⟩⟩⟩⟩⟩⟩⟩⟩⟩⟩⟩⟩⟩⟩⟩⟩⟩⟩⟩⟩⟩⟩⟩⟩⟩⟩⟩⟩⟩⟩⟩⟩⟩⟩⟩⟩⟩⟩⟩⟩⟩⟩⟩⟩⟩⟩⟩⟩⟩⟩⟩⟩⟩⟩⟩⟩⟩⟩⟩⟩⟩
def EN:Env:={ fn:=fun j=>if (rch 271).contains j then fnAll j else none,glob:=globAll,ext:=fun j=>if (rch 271).contains j then extAll j else none }
theorem EN_code {k:Nat} {f:SFunc} (hk:k ∈ rch 271) (hf:fnAll k = some f):EN.code k = some f:=by
 have hx:extAll k = none:=by
  unfold extAll
  split <;> first | rfl | cases hf
 simp [Env.code,EN,hk,hf,hx]
theorem hasN:Has 271 EN where
 fn:=fun k f hk hf=>EN_code hk hf
 gl:=fun g cs hg hc=>hc
 ex:=fun k g hk hg=>by simp [EN,hk,hg]
theorem okN:EnvOk tT EN where
 mix:=by kernel_rfl
 fn:=fun j sf h=>by
  simp only [EN] at h
  split at h
  ·rename_i hc
   exact ok_rch j (by simpa using hc) sf h
  ·cases h
 glob:=fun g cs h=>shut7 g cs h
 ext:=fun j g h=>by
  simp only [EN] at h
  split at h
  ·rename_i hc
   unfold extAll at h
   split at h
   ·cases h
    exact ⟨_,_,Tryz.func135,rfl,by decide,ext81⟩
   ·cases h
    exact ⟨_,_,Tryz.func159,rfl,by decide,ext98⟩
   ·cases h
    exact ⟨_,_,Tryz.func168,rfl,by decide,ext104 rfl⟩
   ·cases h
    exact ⟨_,_,Tryz.func113,rfl,by decide,ext202⟩
   ·cases h
  ·cases h
theorem glob_of {W:World} (h:laidMetH Tryz.prog laid7 W):∀ g cs,EN.glob g = some cs→∃ c e fz l,W.heap[tT.gnum g]? = some (.cells c e fz)∧RepL tT (Ghost.met W) W cs l∧(∀ (i:Nat) (v:Value),l[i]? = some v→c[i]? = some v)∧c.size = l.length:=glob_of7 h
theorem callsN {W:World} (h:laidMetH Tryz.prog laid7 W) {l:List Value} {a0:AV} {L0:List Int} (hL0:IntsV a0 L0) {a1:AV} {L1:List Int} (hL1:IntsV a1 L1) (hl:RepL tT (Ghost.met W) W [a0,a1] l):
  Calls Tryz.prog 5 ⟨l⟩ W fun e W'=>e = .returned (.bool true)∧W.keptBut W' (fun _=>False):=by
 have hc:=calls_of (T:=tT) okN (evalWhole_eq hasN hL0 hL1) (inv_met (glob_of h)) hl
 refine hc.mono fun e W' ⟨u,G',h1,h2,h3⟩=>⟨?_,kept_of_ext h3 _⟩
 rw [h1]
 simp only [RepV] at h2
 rw [h2]
theorem ints_cell:tT.P.cellsOf 3 = 1:=by kernel_rfl
set_option maxRecDepth 100000 in
theorem evalWhole_lifted (os:Os) (started:os.Started) (H:Type) (enc:TypeId × Value→H):
  ReturnsInHanded {} Tryz.checked os 5 .any (fun w args=>(Rows.evalWholeSpec.pre enc Tryz.prog Tryz.f5 [] false w args∧laidMetH Tryz.prog laid7 w)∧sizedMet enc Tryz.prog Tryz.f5 (OpenSpec.ofChange Rows.evalWholeSpec) false w args)
   (Rows.evalWholeSpec.post enc Tryz.prog Tryz.f5 false true false false):=by
 refine returnsInHanded_of_change_and (C:=Tryz.checked) (X:=fun w _=>laidMetH Tryz.prog laid7 w) (fun _ _ _ hh h=>h.of_heap hh) own started (by kernel_rfl) Tryz.func5
  (ChangeSpec.witness_shaped (enc:=enc) (C:=Tryz.checked) (os:=os) (X:=fun w _=>laidMetH Tryz.prog laid7 w) false (World.doorLaid Tryz.prog 4000 os) #[.slice none 0 0,.slice none 0 0] 8 rfl (World.shaped_of_RefB (by kernel_rfl) (by kernel_rfl)) (by kernel_rfl) (by kernel_rfl) (by kernel_rfl) (door_met7 os _)) ?_
 intro W base args ds gs before hval0 hW _ _ hL _
 have hval:∀ (j:Nat) t v,Tryz.f5.params[j]? = some t→args[j]? = some v→Value.okWide Tryz.prog W .any base t v:=hval0
 have hW':=hW
 obtain ⟨p,q,hA0,hV,rfl,hfz,hnd⟩:=hW
 have hA:DataW.TrodAll enc Tryz.prog W 0 (fun _=>true) true Tryz.f5.params.toList args.toList ds p:=hA0
 rw [Tryz.params5] at hA hval
 obtain ⟨v0,v1,d0,d1,p0,p1,rfl,rfl,rfl,h0,h1⟩:=trodAll_two hA
 obtain ⟨rfl,rfl⟩:=trodVars_none hV
 obtain ⟨L0,a0,hL0,A0⟩:=arg_ints (T:=tT) Tryz.underlying22 Tryz.underlying3 ints_cell (hval 0 22 v0 rfl rfl) h0
 obtain ⟨L1,a1,hL1,A1⟩:=arg_ints (T:=tT) Tryz.underlying22 Tryz.underlying3 ints_cell (hval 1 22 v1 rfl rfl) h1
 clear hA0 hval0
 refine (callsN hL (l:=[v0,v1]) hL0 hL1 ⟨_,_,rfl,A0.rep,_,_,rfl,A1.rep,rfl⟩).mono fun e W' ⟨he,hk⟩=>?_
 subst he
 refine ⟨_,rfl,post_kept hW' (fun _ _ _=>trodAll_mk1 (shut_bool Tryz.underlying4 _)) (fun sp hsp=>?_) (fun _=>rfl) hk
  (ok_one (by kernel_rfl) rfl (okWide_bool_mk Tryz.underlying4 _))⟩
 have S0:=A0.shut W' hk sp (fun p hp=>hsp p (List.mem_append_left _ (List.mem_append_left _ hp)))
 have S1:=A1.shut W' hk sp (fun p hp=>hsp p (List.mem_append_left _ (List.mem_append_right _ hp)))
 have S:=trodAll_mk2 S0 S1
 have e:p0++p1++[] = p0++p1:=List.append_nil _
 rw [e]
 exact S
theorem evalWhole_holds:Rows.EvalWholeSaid:=
 OpenClaim.holds_of_wide 5 Tryz.f5 rfl rfl rfl rfl rfl rfl rfl ⟨rfl,rfl,rfl,rfl,rfl⟩ rfl rfl rfl rfl rfl (by kernel_rfl) Tryz.func5 (by kernel_rfl)
  (of_decide_eq_true (by kernel_rfl)) (by unfold Func.isWrapper; first | (rw [if_pos (by decide +kernel)]; kernel_rfl) | (rw [if_neg (by decide +kernel)]; exact ⟨rfl,rfl⟩))
  (fun os started H enc _=>evalWhole_lifted os started H enc)
theorem evalWhole_card:Rows.EvalWholeCardSaid:=
 Claim7.holds_tied_plain_at .later [] [.data, .data, .data, .sentinel, .sentinel, .data, .data, .widerDeep, .data, .data] true (true, "cc424c9e70d1e0794904a417abef18829882a2f9a8e2ce8c6d1019801c84801b") true
  evalWhole_holds (fun _ h=>by cases h) (by kernel_rfl) (fun _ h=>by cases h) evalWhole_row_tie rfl ⟨rfl,rfl⟩ (by kernel_rfl) rfl
  (fun f fn hf hfn=>by
   obtain rfl : f = 5 := Option.some.inj ((show Tryz.prog.funcNamed "drachm/drachmlaw14.EvalWhole" = some 5 by kernel_rfl).symm.trans hf) |>.symm
   obtain rfl:fn = Tryz.f5:=(Option.some.inj (Tryz.func5.symm.trans hfn)).symm
   exact ⟨by kernel_rfl,fun j t ht=>by
    rw [Tryz.params5] at ht
    have h3:t = 22:=by
     rcases j with _ | _ | j
     ·exact (by simpa using ht.symm)
     ·exact (by simpa using ht.symm)
     ·simp at ht
    rcases h3 with rfl
    ·exact (show Tryz.prog.wantsStandIn 22 = false by kernel_rfl)⟩)
  (by kernel_rfl)
#print axioms evalWhole_card
end Go.Proofs.YtamopjeecnhfaaaGreatDoor
