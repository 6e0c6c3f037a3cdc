/- A part of the proof: functions of the program in the evaluator's code, and what they come to. Conditions: none; definitions and theorems that the statement's proof uses. -/
import Derived.Test.YtamopjeecnhfaaaGreatDoorSetwPvHas
import Derived.KernelRfl
import Derived.Test.YtamopjeecnhfaaaGreatDoorChecked
/- The seat's functions are those. Conditions: none; theorems. -/
namespace Go.Proofs.YtamopjeecnhfaaaGreatDoor
open Go Go.Pv
def fnums:List Nat:=[0,1,2,0,0,0,0,0,0,0,0,0,0,162,0,0,0,0,0,0,16,0,0,0,0,165,166,0,0,0,28,29,30,31,0,0,0,0,49,169,170,171,0,0,57,58,59,60,61,62,63,23,0,0,0,0,91,92,93,177,178,179,100,101,102,103,104,105,106,107,108,45,46,47,0,185,130,131,132,133,134,135,136,137,138,87,0,0,147,148,149,150,151,152,153,154,157,158,159,160,161,163,164,167,168,172,173,174,175,176,180,181,182,183,184,186,187,188,189,190,191,192,193,194,195,196,197,198,199,200,201,202,0,203,204,205,206,207,208,209,213,214,215,216,217,218,219,220,221,0,0,0,0,0,0,0,0,0,0,0,0,0,0,13,0,0,0,0,34,0,55,0,0,0,0,26,0,0,67,68,69,0,65,98,0,0,0,0,99,0,52,53,54,0,0,0,0,0,0,0,111,112,113,0,0,0,129,0,0,0,0,139,0,0,0,0,0,0,0,0,0,0,0,0,0,0,0,0,0,0,0,0,0,0,0,0,0,0,0,0,0,0,0,0,0,0,0,0,0,0,0,0,0,0,0,0,0,0,0,0,0,0,0,0,0,0,0,0,0,3,4,5,6,7,8,9,10,11,12,14,15,17,18,19,20,21,22,24,25,27,32,33,35,36,37,38,39,40,41,42,43,44,48,50,51,56,64,66,70,71,72,73,74,75,76,77,78,79,80,81,82,83,84,85,86,88,89,90,94,95,96,97,109,110,114,115,116,117,118,119,120,121,122,123,124,125,126,127,128,140,141,142,143,144,145,146,155,156,210,211,212,0,0,0,0,0,0,0,0,0,0,0,0,0,0,0,0,0,0]
def ffinds:List Nat:=[0,1,2,269,270,271,272,273,274,275,276,277,278,163,279,280,20,281,282,283,284,285,286,51,287,288,175,289,30,31,32,33,290,291,168,292,293,294,295,296,297,298,299,300,301,71,72,73,302,38,303,304,190,191,192,170,305,44,45,46,47,48,49,50,306,182,307,178,179,180,308,309,310,311,312,313,314,315,316,317,318,319,320,321,322,323,324,85,325,326,327,56,57,58,328,329,330,331,183,188,62,63,64,65,66,67,68,69,70,332,333,200,201,202,334,335,336,337,338,339,340,341,342,343,344,345,346,347,348,206,76,77,78,79,80,81,82,83,84,211,349,350,351,352,353,354,355,88,89,90,91,92,93,94,95,356,357,96,97,98,99,100,13,101,102,25,26,103,104,39,40,41,105,106,107,108,109,59,60,61,110,111,112,113,114,75,115,116,117,118,119,120,121,122,123,124,125,126,127,128,129,130,131,133,134,135,136,137,138,139,358,359,360,140,141,142,143,144,145,146,147,148]
def gnums:List Nat:=[1,2,5,6,7,8,9,10,0,3,4]
def gfinds:List Nat:=[8,0,1,9,10,2,3,4,5,6,7]
def tnums:List Nat:=[120,215,219,234,9,1000000]
def tfinds:List (Nat × Nat):=[(9,4),(120,0),(215,1),(219,2),(234,3)]
noncomputable def tT:Tie:={ P:=Tryz.prog,fnum:=fun j=>fnums.getD j 0,ffind:=fun i=>ffinds[i]?,gnum:=fun j=>gnums.getD j 0,gfind:=fun i=>gfinds[i]?,tnum:=fun j=>tnums.getD j 1000000,tfind:=fun i=>tfinds.lookup i }
def kp (a b:List (Nat × List Bool)) (c:List Bool) (r:List Nat:=[]):Keeps:=⟨fun i=>(a.lookup i).getD [],fun i=>(b.lookup i).getD [],c,fun t=>r.contains t⟩
def k13:=kp [] [] q13
def k20:=kp [] [] q20
def k25:=kp [] [] q25
def k26:=kp [(1,q26_1),(0,q26)] [(7,q26_1)] q26
def k30:=kp [(0,q30_0),(2,q30_2),(1,q30_2)] [] q30
def k31:=kp [(1,q31_1),(0,q31_1)] [] q31
def k32:=kp [] [] q32
def k33:=kp [] [] q33
def k38:=kp [(1,q38_1),(0,q38_0)] [(3,q38_1)] q38
def k39:=kp [] [] q39
def k40:=kp [] [] q40
def k41:=kp [] [] q41
def k44:=kp [] [] q44
def k45:=kp [] [] q31_1
def k46:=kp [(1,q46_1),(0,q46_0)] [(1,q46_1)] q46_0
def k47:=kp [(0,q47_0)] [] q47
def k48:=kp [] [] [Z,Z,Z,Z,Z,Z,Z,Z,Z,Z,Z,Z,Z,Z]
def k49:=kp [(2,q49_2),(1,q49_1),(0,q49_0)] [(5,q49_1)] q49
def k50:=kp [] [] q183_0
def k51:=kp [] [] q51
def k56:=kp [] [] q56
def k57:=kp [] [] q57
def k58:=kp [] [] q56
def k59:=kp [(1,q59_1),(0,q59_0)] [(2,q59_1)] q59
def k60:=kp [] [] q31
def k61:=kp [] [] q61
def k62:=kp [(1,q62_1),(2,q62_1),(3,q62_1),(0,q62_0),(4,q62_1)] [] q62
def k63:=kp [(1,q63_1),(0,q63_0)] [(3,q63_1)] q63
def k64:=kp [] [] q64
def k65:=kp [] [] q65
def k66:=kp [] [] q66
def k67:=kp [(1,q67_1),(0,q67_0)] [(3,q67_1)] q67
def k68:=kp [] [] q68
def k69:=kp [] [] q69
def k70:=kp [] [] q70
def k71:=kp [] [] q71
def k72:=kp [] [] q72
def k73:=kp [] [] q73
def k75:=kp [] [] q75
def k76:=kp [] [] q76
def k77:=kp [(1,q77_1),(0,q77_0)] [(3,q77_1)] q77
def k78:=kp [] [] q78
def k79:=kp [(0,q79_0)] [] q79
def k80:=kp [(0,q67)] [] q80
def k82:=kp [] [] q82
def k83:=kp [] [] q83
def k84:=kp [(0,q84_0)] [] q84
def k85:=kp [] [] q85
def k88:=kp [(1,q88_1),(0,q88_1),(2,q88_2),(5,q88_5),(4,q88_4),(3,q88_3)] [(36,q88_4)] q88
def k89:=kp [] [] q68
def k90:=kp [] [] q68
def k91:=kp [] [] q91
def k92:=kp [] [] q91
def k94:=kp [] [] q94
def k95:=kp [] [] q95
def k96:=kp [] [] q96
def k97:=kp [(1,q97_1),(0,q97_0)] [(10,q97_1)] q97
def k99:=kp [] [] q99
def k100:=kp [] [] q96
def k101:=kp [] [] q101
def k102:=kp [] [] q96
def k103:=kp [] [] q103
def k105:=kp [(1,q59_1),(0,q59_0)] [(2,q59_1)] q59
def k163:=kp [] [] q163
def k168:=kp [(1,q168_1),(0,q168_0)] [(4,q168_1)] q168
def k170:=kp [(1,q170_1),(0,q170_0)] [(5,q170_1)] q170
def k175:=kp [] [] q175
def k178:=kp [] [] q178
def k179:=kp [(0,q179_0)] [] q179
def k180:=kp [(0,q180_0)] [] q180
def k182:=kp [(2,q182_2),(1,q182_1),(0,q182_1)] [(20,q182_2)] q182
def k183:=kp [(0,q183_0)] [] q183
def k188:=kp [] [] q188
def k190:=kp [] [] q190
def k191:=kp [] [] q94
def k192:=kp [] [] q192
def k200:=kp [] [] q200
def k201:=kp [] [] q192
def k206:=kp [(1,q206_1),(0,q206_0)] [(3,q206_1)] q206
def k271:=kp [] [] q271
def k276:=kp [] [] q276
def k278:=kp [] [] q278
def k283:=kp [(2,q283_2),(1,q283_1),(0,q283_0),(1000017,[X,X,X])] [(6,q283_1)] q283 [44]
def k284:=kp [] [] q284
def k285:=kp [] [] q284
def k286:=kp [] [] q99
def k287:=kp [(0,q287_0)] [] q287
def k288:=kp [] [] q288
def k290:=kp [] [] q290
def k291:=kp [] [] q291
def k292:=kp [] [] q292
def k293:=kp [] [] q293
def k294:=kp [] [] q294
def k295:=kp [] [] q294
def k296:=kp [] [] q206_0
def k297:=kp [] [] q297
def k298:=kp [] [] q298
def k299:=kp [(1,q299_1),(0,q299_0)] [(7,q299_1)] q299
def k300:=kp [] [] q298
def k301:=kp [] [] q301
def k302:=kp [(0,q302_0)] [] q302
def k303:=kp [] [] q303
def k304:=kp [(3,q304_3),(2,q304_2),(1,q304_1),(0,q304_0)] [(3,q304_1),(12,q304_3)] q47
def k305:=kp [(0,q305_0)] [] q305
def k306:=kp [(1,q306_1),(0,q306_0)] [(9,q306_1)] q306
def k307:=kp [] [] q307
def k308:=kp [(0,q308_0)] [] q308
def k309:=kp [(2,q309_2),(1,q309_2),(0,q309_0)] [(3,q309_2)] q309
def k310:=kp [] [] q310
def k311:=kp [(0,q311_0)] [] q311
def k312:=kp [] [] q310
def k313:=kp [] [] q313
def k314:=kp [] [] q310
def k315:=kp [] [] q310
def k316:=kp [] [] q313
def k317:=kp [] [] q206
def k318:=kp [] [] q291
def k319:=kp [] [] q319
def k320:=kp [] [] q320
def k321:=kp [(1,q321_1),(0,q321_0)] [(2,q321_1)] q290
def k322:=kp [] [] q322
def k323:=kp [] [] q96
def k324:=kp [(1,q324_1),(0,q324_0)] [(10,q324_1)] q324
def k325:=kp [] [] q325
def k326:=kp [] [] q326
def k327:=kp [(1,q327_1),(0,q327_0)] [(3,q327_1)] q327
def k328:=kp [] [] q328
def k329:=kp [(0,q329_0),(2,q329_2),(1,q329_1)] [(14,q329_2)] q329
def k330:=kp [] [] q328
def k331:=kp [] [] q331
def k332:=kp [(1,q332_1),(0,q332_0)] [(17,q332_1)] q332
def k333:=kp [(1,q333_1),(0,q333_0)] [(6,q333_1)] q333
def k334:=kp [] [] q96
def k335:=kp [(1,q335_1),(0,q335_0)] [(5,q335_1)] q335
def k336:=kp [] [] q336
def k337:=kp [(1,q337_1),(0,q337_0)] [(5,q337_1)] q337
def k338:=kp [(1,q338_1),(0,q338_0)] [(5,q338_1)] q338
def k339:=kp [(1,q339),(0,q339)] [] q339
def k340:=kp [] [] q39
def k341:=kp [] [] q39
def k342:=kp [(1,q342_1),(0,q342_0)] [(7,q342_1)] q342
def k343:=kp [] [] q307
def k344:=kp [(1,q344_1),(0,q344_0)] [(5,q344_1)] q20
def k345:=kp [] [] q345
def k346:=kp [(1,q346_1),(0,q346_0)] [(6,q346_1)] q346
def k347:=kp [(1,q347_1),(0,q347_0)] [(4,q347_1)] q347
def k348:=kp [] [] q76
def k349:=kp [(1,q349_1),(0,q349_0)] [(1,q349_1)] q349_0
def k350:=kp [] [] q350
def k351:=kp [] [] q351
def k352:=kp [] [] q56
def k353:=kp [(1,q353_1),(0,q353_0)] [(2,q353_1)] q339
def k354:=kp [(1,q354_1),(0,q354_0)] [(1,q354_1)] q39
def k355:=kp [] [] q183
def k356:=kp [] [] q356
def k357:=kp [(1,q357_1),(0,q357_0)] [(1,q357_1)] q357_0
theorem c13:cFunc tT k13 f13.mode Tryz.f162 = some f13:=by kernel_rfl
theorem c20:cFunc tT k20 f20.mode Tryz.f16 = some f20:=by kernel_rfl
theorem c25:cFunc tT k25 f25.mode Tryz.f165 = some f25:=by kernel_rfl
theorem c26:cFunc tT k26 f26.mode Tryz.f166 = some f26:=by kernel_rfl
theorem c30:cFunc tT k30 f30.mode Tryz.f28 = some f30:=by kernel_rfl
theorem c31:cFunc tT k31 f31.mode Tryz.f29 = some f31:=by kernel_rfl
theorem c32:cFunc tT k32 f32.mode Tryz.f30 = some f32:=by kernel_rfl
theorem c33:cFunc tT k33 f33.mode Tryz.f31 = some f33:=by kernel_rfl
theorem c38:cFunc tT k38 f38.mode Tryz.f49 = some f38:=by kernel_rfl
theorem c39:cFunc tT k39 f39.mode Tryz.f169 = some f39:=by kernel_rfl
theorem c40:cFunc tT k40 f40.mode Tryz.f170 = some f40:=by kernel_rfl
theorem c41:cFunc tT k41 f41.mode Tryz.f171 = some f41:=by kernel_rfl
theorem c44:cFunc tT k44 f44.mode Tryz.f57 = some f44:=by kernel_rfl
theorem c45:cFunc tT k45 f45.mode Tryz.f58 = some f45:=by kernel_rfl
theorem c46:cFunc tT k46 f46.mode Tryz.f59 = some f46:=by kernel_rfl
theorem c47:cFunc tT k47 f47.mode Tryz.f60 = some f47:=by kernel_rfl
theorem c48:cFunc tT k48 f48.mode Tryz.f61 = some f48:=by kernel_rfl
theorem c49:cFunc tT k49 f49.mode Tryz.f62 = some f49:=by kernel_rfl
theorem c50:cFunc tT k50 f50.mode Tryz.f63 = some f50:=by kernel_rfl
theorem c51:cFunc tT k51 f51.mode Tryz.f23 = some f51:=by kernel_rfl
theorem c56:cFunc tT k56 f56.mode Tryz.f91 = some f56:=by kernel_rfl
theorem c57:cFunc tT k57 f57.mode Tryz.f92 = some f57:=by kernel_rfl
theorem c58:cFunc tT k58 f58.mode Tryz.f93 = some f58:=by kernel_rfl
theorem c59:cFunc tT k59 f59.mode Tryz.f177 = some f59:=by kernel_rfl
theorem c60:cFunc tT k60 f60.mode Tryz.f178 = some f60:=by kernel_rfl
theorem c61:cFunc tT k61 f61.mode Tryz.f179 = some f61:=by kernel_rfl
theorem c62:cFunc tT k62 f62.mode Tryz.f100 = some f62:=by kernel_rfl
theorem c63:cFunc tT k63 f63.mode Tryz.f101 = some f63:=by kernel_rfl
theorem c64:cFunc tT k64 f64.mode Tryz.f102 = some f64:=by kernel_rfl
theorem c65:cFunc tT k65 f65.mode Tryz.f103 = some f65:=by kernel_rfl
theorem c66:cFunc tT k66 f66.mode Tryz.f104 = some f66:=by kernel_rfl
theorem c67:cFunc tT k67 f67.mode Tryz.f105 = some f67:=by kernel_rfl
theorem c68:cFunc tT k68 f68.mode Tryz.f106 = some f68:=by kernel_rfl
theorem c69:cFunc tT k69 f69.mode Tryz.f107 = some f69:=by kernel_rfl
theorem c70:cFunc tT k70 f70.mode Tryz.f108 = some f70:=by kernel_rfl
theorem c71:cFunc tT k71 f71.mode Tryz.f45 = some f71:=by kernel_rfl
theorem c72:cFunc tT k72 f72.mode Tryz.f46 = some f72:=by kernel_rfl
theorem c73:cFunc tT k73 f73.mode Tryz.f47 = some f73:=by kernel_rfl
theorem c75:cFunc tT k75 f75.mode Tryz.f185 = some f75:=by kernel_rfl
theorem c76:cFunc tT k76 f76.mode Tryz.f130 = some f76:=by kernel_rfl
theorem c77:cFunc tT k77 f77.mode Tryz.f131 = some f77:=by kernel_rfl
theorem c78:cFunc tT k78 f78.mode Tryz.f132 = some f78:=by kernel_rfl
theorem c79:cFunc tT k79 f79.mode Tryz.f133 = some f79:=by kernel_rfl
theorem c80:cFunc tT k80 f80.mode Tryz.f134 = some f80:=by kernel_rfl
theorem c82:cFunc tT k82 f82.mode Tryz.f136 = some f82:=by kernel_rfl
theorem c83:cFunc tT k83 f83.mode Tryz.f137 = some f83:=by kernel_rfl
theorem c84:cFunc tT k84 f84.mode Tryz.f138 = some f84:=by kernel_rfl
theorem c85:cFunc tT k85 f85.mode Tryz.f87 = some f85:=by kernel_rfl
theorem c88:cFunc tT k88 f88.mode Tryz.f147 = some f88:=by kernel_rfl
theorem c89:cFunc tT k89 f89.mode Tryz.f148 = some f89:=by kernel_rfl
theorem c90:cFunc tT k90 f90.mode Tryz.f149 = some f90:=by kernel_rfl
theorem c91:cFunc tT k91 f91.mode Tryz.f150 = some f91:=by kernel_rfl
theorem c92:cFunc tT k92 f92.mode Tryz.f151 = some f92:=by kernel_rfl
theorem c94:cFunc tT k94 f94.mode Tryz.f153 = some f94:=by kernel_rfl
theorem c95:cFunc tT k95 f95.mode Tryz.f154 = some f95:=by kernel_rfl
theorem c96:cFunc tT k96 f96.mode Tryz.f157 = some f96:=by kernel_rfl
theorem c97:cFunc tT k97 f97.mode Tryz.f158 = some f97:=by kernel_rfl
theorem c99:cFunc tT k99 f99.mode Tryz.f160 = some f99:=by kernel_rfl
theorem c100:cFunc tT k100 f100.mode Tryz.f161 = some f100:=by kernel_rfl
theorem c101:cFunc tT k101 f101.mode Tryz.f163 = some f101:=by kernel_rfl
theorem c102:cFunc tT k102 f102.mode Tryz.f164 = some f102:=by kernel_rfl
theorem c103:cFunc tT k103 f103.mode Tryz.f167 = some f103:=by kernel_rfl
theorem c105:cFunc tT k105 f105.mode Tryz.f172 = some f105:=by kernel_rfl
theorem c163:cFunc tT k163 f163.mode Tryz.f13 = some f163:=by kernel_rfl
theorem c168:cFunc tT k168 f168.mode Tryz.f34 = some f168:=by kernel_rfl
theorem c170:cFunc tT k170 f170.mode Tryz.f55 = some f170:=by kernel_rfl
theorem c175:cFunc tT k175 f175.mode Tryz.f26 = some f175:=by kernel_rfl
theorem c178:cFunc tT k178 f178.mode Tryz.f67 = some f178:=by kernel_rfl
theorem c179:cFunc tT k179 f179.mode Tryz.f68 = some f179:=by kernel_rfl
theorem c180:cFunc tT k180 f180.mode Tryz.f69 = some f180:=by kernel_rfl
theorem c182:cFunc tT k182 f182.mode Tryz.f65 = some f182:=by kernel_rfl
theorem c183:cFunc tT k183 f183.mode Tryz.f98 = some f183:=by kernel_rfl
theorem c188:cFunc tT k188 f188.mode Tryz.f99 = some f188:=by kernel_rfl
theorem c190:cFunc tT k190 f190.mode Tryz.f52 = some f190:=by kernel_rfl
theorem c191:cFunc tT k191 f191.mode Tryz.f53 = some f191:=by kernel_rfl
theorem c192:cFunc tT k192 f192.mode Tryz.f54 = some f192:=by kernel_rfl
theorem c200:cFunc tT k200 f200.mode Tryz.f111 = some f200:=by kernel_rfl
theorem c201:cFunc tT k201 f201.mode Tryz.f112 = some f201:=by kernel_rfl
theorem c206:cFunc tT k206 f206.mode Tryz.f129 = some f206:=by kernel_rfl
theorem c271:cFunc tT k271 f271.mode Tryz.f5 = some f271:=by kernel_rfl
theorem c276:cFunc tT k276 f276.mode Tryz.f10 = some f276:=by kernel_rfl
theorem c278:cFunc tT k278 f278.mode Tryz.f12 = some f278:=by kernel_rfl
theorem c283:cFunc tT k283 f283.mode Tryz.f19 = some f283:=by kernel_rfl
theorem c284:cFunc tT k284 f284.mode Tryz.f20 = some f284:=by kernel_rfl
theorem c285:cFunc tT k285 f285.mode Tryz.f21 = some f285:=by kernel_rfl
theorem c286:cFunc tT k286 f286.mode Tryz.f22 = some f286:=by kernel_rfl
theorem c287:cFunc tT k287 f287.mode Tryz.f24 = some f287:=by kernel_rfl
theorem c288:cFunc tT k288 f288.mode Tryz.f25 = some f288:=by kernel_rfl
theorem c290:cFunc tT k290 f290.mode Tryz.f32 = some f290:=by kernel_rfl
theorem c291:cFunc tT k291 f291.mode Tryz.f33 = some f291:=by kernel_rfl
theorem c292:cFunc tT k292 f292.mode Tryz.f35 = some f292:=by kernel_rfl
theorem c293:cFunc tT k293 f293.mode Tryz.f36 = some f293:=by kernel_rfl
theorem c294:cFunc tT k294 f294.mode Tryz.f37 = some f294:=by kernel_rfl
theorem c295:cFunc tT k295 f295.mode Tryz.f38 = some f295:=by kernel_rfl
theorem c296:cFunc tT k296 f296.mode Tryz.f39 = some f296:=by kernel_rfl
theorem c297:cFunc tT k297 f297.mode Tryz.f40 = some f297:=by kernel_rfl
theorem c298:cFunc tT k298 f298.mode Tryz.f41 = some f298:=by kernel_rfl
theorem c299:cFunc tT k299 f299.mode Tryz.f42 = some f299:=by kernel_rfl
theorem c300:cFunc tT k300 f300.mode Tryz.f43 = some f300:=by kernel_rfl
theorem c301:cFunc tT k301 f301.mode Tryz.f44 = some f301:=by kernel_rfl
theorem c302:cFunc tT k302 f302.mode Tryz.f48 = some f302:=by kernel_rfl
theorem c303:cFunc tT k303 f303.mode Tryz.f50 = some f303:=by kernel_rfl
theorem c304:cFunc tT k304 f304.mode Tryz.f51 = some f304:=by kernel_rfl
theorem c305:cFunc tT k305 f305.mode Tryz.f56 = some f305:=by kernel_rfl
theorem c306:cFunc tT k306 f306.mode Tryz.f64 = some f306:=by kernel_rfl
theorem c307:cFunc tT k307 f307.mode Tryz.f66 = some f307:=by kernel_rfl
theorem c308:cFunc tT k308 f308.mode Tryz.f70 = some f308:=by kernel_rfl
theorem c309:cFunc tT k309 f309.mode Tryz.f71 = some f309:=by kernel_rfl
theorem c310:cFunc tT k310 f310.mode Tryz.f72 = some f310:=by kernel_rfl
theorem c311:cFunc tT k311 f311.mode Tryz.f73 = some f311:=by kernel_rfl
theorem c312:cFunc tT k312 f312.mode Tryz.f74 = some f312:=by kernel_rfl
theorem c313:cFunc tT k313 f313.mode Tryz.f75 = some f313:=by kernel_rfl
theorem c314:cFunc tT k314 f314.mode Tryz.f76 = some f314:=by kernel_rfl
theorem c315:cFunc tT k315 f315.mode Tryz.f77 = some f315:=by kernel_rfl
theorem c316:cFunc tT k316 f316.mode Tryz.f78 = some f316:=by kernel_rfl
theorem c317:cFunc tT k317 f317.mode Tryz.f79 = some f317:=by kernel_rfl
theorem c318:cFunc tT k318 f318.mode Tryz.f80 = some f318:=by kernel_rfl
theorem c319:cFunc tT k319 f319.mode Tryz.f81 = some f319:=by kernel_rfl
theorem c320:cFunc tT k320 f320.mode Tryz.f82 = some f320:=by kernel_rfl
theorem c321:cFunc tT k321 f321.mode Tryz.f83 = some f321:=by kernel_rfl
theorem c322:cFunc tT k322 f322.mode Tryz.f84 = some f322:=by kernel_rfl
theorem c323:cFunc tT k323 f323.mode Tryz.f85 = some f323:=by kernel_rfl
theorem c324:cFunc tT k324 f324.mode Tryz.f86 = some f324:=by kernel_rfl
theorem c325:cFunc tT k325 f325.mode Tryz.f88 = some f325:=by kernel_rfl
theorem c326:cFunc tT k326 f326.mode Tryz.f89 = some f326:=by kernel_rfl
theorem c327:cFunc tT k327 f327.mode Tryz.f90 = some f327:=by kernel_rfl
theorem c328:cFunc tT k328 f328.mode Tryz.f94 = some f328:=by kernel_rfl
theorem c329:cFunc tT k329 f329.mode Tryz.f95 = some f329:=by kernel_rfl
theorem c330:cFunc tT k330 f330.mode Tryz.f96 = some f330:=by kernel_rfl
theorem c331:cFunc tT k331 f331.mode Tryz.f97 = some f331:=by kernel_rfl
theorem c332:cFunc tT k332 f332.mode Tryz.f109 = some f332:=by kernel_rfl
theorem c333:cFunc tT k333 f333.mode Tryz.f110 = some f333:=by kernel_rfl
theorem c334:cFunc tT k334 f334.mode Tryz.f114 = some f334:=by kernel_rfl
theorem c335:cFunc tT k335 f335.mode Tryz.f115 = some f335:=by kernel_rfl
theorem c336:cFunc tT k336 f336.mode Tryz.f116 = some f336:=by kernel_rfl
theorem c337:cFunc tT k337 f337.mode Tryz.f117 = some f337:=by kernel_rfl
theorem c338:cFunc tT k338 f338.mode Tryz.f118 = some f338:=by kernel_rfl
theorem c339:cFunc tT k339 f339.mode Tryz.f119 = some f339:=by kernel_rfl
theorem c340:cFunc tT k340 f340.mode Tryz.f120 = some f340:=by kernel_rfl
theorem c341:cFunc tT k341 f341.mode Tryz.f121 = some f341:=by kernel_rfl
theorem c342:cFunc tT k342 f342.mode Tryz.f122 = some f342:=by kernel_rfl
theorem c343:cFunc tT k343 f343.mode Tryz.f123 = some f343:=by kernel_rfl
theorem c344:cFunc tT k344 f344.mode Tryz.f124 = some f344:=by kernel_rfl
theorem c345:cFunc tT k345 f345.mode Tryz.f125 = some f345:=by kernel_rfl
theorem c346:cFunc tT k346 f346.mode Tryz.f126 = some f346:=by kernel_rfl
theorem c347:cFunc tT k347 f347.mode Tryz.f127 = some f347:=by kernel_rfl
theorem c348:cFunc tT k348 f348.mode Tryz.f128 = some f348:=by kernel_rfl
theorem c349:cFunc tT k349 f349.mode Tryz.f140 = some f349:=by kernel_rfl
theorem c350:cFunc tT k350 f350.mode Tryz.f141 = some f350:=by kernel_rfl
theorem c351:cFunc tT k351 f351.mode Tryz.f142 = some f351:=by kernel_rfl
theorem c352:cFunc tT k352 f352.mode Tryz.f143 = some f352:=by kernel_rfl
theorem c353:cFunc tT k353 f353.mode Tryz.f144 = some f353:=by kernel_rfl
theorem c354:cFunc tT k354 f354.mode Tryz.f145 = some f354:=by kernel_rfl
theorem c355:cFunc tT k355 f355.mode Tryz.f146 = some f355:=by kernel_rfl
theorem c356:cFunc tT k356 f356.mode Tryz.f155 = some f356:=by kernel_rfl
theorem c357:cFunc tT k357 f357.mode Tryz.f156 = some f357:=by kernel_rfl
def fnT:Nat→Option SFunc
 | 13=>some f13
 | 20=>some f20
 | 25=>some f25
 | 26=>some f26
 | 30=>some f30
 | 31=>some f31
 | 32=>some f32
 | 33=>some f33
 | 38=>some f38
 | 39=>some f39
 | 40=>some f40
 | 41=>some f41
 | 44=>some f44
 | 45=>some f45
 | 46=>some f46
 | 47=>some f47
 | 48=>some f48
 | 49=>some f49
 | 50=>some f50
 | 51=>some f51
 | 56=>some f56
 | 57=>some f57
 | 58=>some f58
 | 59=>some f59
 | 60=>some f60
 | 61=>some f61
 | 62=>some f62
 | 63=>some f63
 | 64=>some f64
 | 65=>some f65
 | 66=>some f66
 | 67=>some f67
 | 68=>some f68
 | 69=>some f69
 | 70=>some f70
 | 71=>some f71
 | 72=>some f72
 | 73=>some f73
 | 75=>some f75
 | 76=>some f76
 | 77=>some f77
 | 78=>some f78
 | 79=>some f79
 | 80=>some f80
 | 82=>some f82
 | 83=>some f83
 | 84=>some f84
 | 85=>some f85
 | 88=>some f88
 | 89=>some f89
 | 90=>some f90
 | 91=>some f91
 | 92=>some f92
 | 94=>some f94
 | 95=>some f95
 | 96=>some f96
 | 97=>some f97
 | 99=>some f99
 | 100=>some f100
 | 101=>some f101
 | 102=>some f102
 | 103=>some f103
 | 105=>some f105
 | 163=>some f163
 | 168=>some f168
 | 170=>some f170
 | 175=>some f175
 | 178=>some f178
 | 179=>some f179
 | 180=>some f180
 | 182=>some f182
 | 183=>some f183
 | 188=>some f188
 | 190=>some f190
 | 191=>some f191
 | 192=>some f192
 | 200=>some f200
 | 201=>some f201
 | 206=>some f206
 | 271=>some f271
 | 276=>some f276
 | 278=>some f278
 | 283=>some f283
 | 284=>some f284
 | 285=>some f285
 | 286=>some f286
 | 287=>some f287
 | 288=>some f288
 | 290=>some f290
 | 291=>some f291
 | 292=>some f292
 | 293=>some f293
 | 294=>some f294
 | 295=>some f295
 | 296=>some f296
 | 297=>some f297
 | 298=>some f298
 | 299=>some f299
 | 300=>some f300
 | 301=>some f301
 | 302=>some f302
 | 303=>some f303
 | 304=>some f304
 | 305=>some f305
 | 306=>some f306
 | 307=>some f307
 | 308=>some f308
 | 309=>some f309
 | 310=>some f310
 | 311=>some f311
 | 312=>some f312
 | 313=>some f313
 | 314=>some f314
 | 315=>some f315
 | 316=>some f316
 | 317=>some f317
 | 318=>some f318
 | 319=>some f319
 | 320=>some f320
 | 321=>some f321
 | 322=>some f322
 | 323=>some f323
 | 324=>some f324
 | 325=>some f325
 | 326=>some f326
 | 327=>some f327
 | 328=>some f328
 | 329=>some f329
 | 330=>some f330
 | 331=>some f331
 | 332=>some f332
 | 333=>some f333
 | 334=>some f334
 | 335=>some f335
 | 336=>some f336
 | 337=>some f337
 | 338=>some f338
 | 339=>some f339
 | 340=>some f340
 | 341=>some f341
 | 342=>some f342
 | 343=>some f343
 | 344=>some f344
 | 345=>some f345
 | 346=>some f346
 | 347=>some f347
 | 348=>some f348
 | 349=>some f349
 | 350=>some f350
 | 351=>some f351
 | 352=>some f352
 | 353=>some f353
 | 354=>some f354
 | 355=>some f355
 | 356=>some f356
 | 357=>some f357
 | _=>none
end Go.Proofs.YtamopjeecnhfaaaGreatDoor
