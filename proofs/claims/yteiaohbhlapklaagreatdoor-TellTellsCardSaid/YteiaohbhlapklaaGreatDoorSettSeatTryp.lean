/- A part of the proof: functions of the program in the evaluator's code, and what they come to. Conditions: none; definitions and theorems that the statement's proof uses. -/
import Derived.Test.YteiaohbhlapklaaGreatDoorSettPvHas
import Derived.KernelRfl
import Derived.Test.YteiaohbhlapklaaGreatDoorChecked
/- The seat's functions are those. Conditions: none; theorems. -/
namespace Go.Proofs.YteiaohbhlapklaaGreatDoor
open Go Go.Pv
def fnums:List Nat:=[0,1,2,0,0,0,0,0,0,0,0,0,0,187,0,0,0,0,0,53,21,0,0,0,0,95,133,0,0,0,48,49,50,51,0,0,0,103,126,158,159,160,0,0,44,75,76,77,78,79,80,97,115,124,0,96,154,155,156,178,179,180,106,107,108,109,110,71,111,112,113,128,129,130,147,191,138,139,140,141,142,143,144,145,146,157,174,175,166,167,168,169,170,171,172,173,183,184,185,186,98,188,131,192,104,195,134,135,136,137,161,162,163,164,165,181,182,196,197,198,199,200,201,202,203,204,205,206,207,208,209,210,0,211,212,213,214,215,216,217,218,219,220,221,222,223,224,225,226,0,0,0,0,0,0,0,0,0,0,0,22,0,52,17,29,31,0,58,45,27,81,82,26,83,84,41,55,91,67,68,69,54,92,114,116,117,118,99,119,120,62,63,64,87,88,30,89,90,122,123,100,101,102,85,86,93,148,149,150,151,152,132,121,176,177,189,190,193,194,3,4,5,6,7,8,9,10,11,12,13,14,15,16,18,19,20,23,24,25,28,32,33,34,35,36,37,38,39,40,42,43,46,47,56,57,59,60,61,65,66,70,72,73,74,94,105,125,127,153]
def ffinds:List Nat:=[0,1,2,219,220,221,222,223,224,225,226,227,228,229,230,231,232,163,233,234,235,20,160,236,237,238,172,169,239,164,195,165,240,241,242,243,244,245,246,247,248,175,249,250,44,168,251,252,30,31,32,33,162,19,181,176,253,254,167,255,256,257,190,191,192,258,259,178,179,180,260,67,261,262,263,45,46,47,48,49,50,170,171,173,174,203,204,193,194,196,197,177,182,205,264,25,55,51,100,187,200,201,202,37,104,265,62,63,64,65,66,68,69,70,183,52,184,185,186,188,189,212,198,199,53,266,38,267,71,72,73,102,211,26,106,107,108,109,76,77,78,79,80,81,82,83,84,74,206,207,208,209,210,268,56,57,58,85,39,40,41,110,111,112,113,114,88,89,90,91,92,93,94,95,86,87,213,214,59,60,61,115,116,96,97,98,99,13,101,215,216,75,103,217,218,105,117,118,119,120,121,122,123,124,125,126,127,128,129,130,131,133,134,135,136,137,138,139,140,141,142,143,144,145,146,147,148]
def gnums:List Nat:=[1,0,3,4,5,2,6,7]
def gfinds:List Nat:=[1,0,5,2,3,4,6,7]
def tnums:List Nat:=[118,212,215,233,9,1000000]
def tfinds:List (Nat × Nat):=[(9,4),(118,0),(212,1),(215,2),(233,3)]
noncomputable def tT:Tie:={ P:=Tryz.prog,fnum:=fun j=>fnums.getD j 0,ffind:=fun i=>ffinds[i]?,gnum:=fun j=>gnums.getD j 0,gfind:=fun i=>gfinds[i]?,tnum:=fun j=>tnums.getD j 1000000,tfind:=fun i=>tfinds.lookup i,rowt:=fun t=>[109].contains t }
def kp (a b:List (Nat × List Bool)) (c:List Bool):Keeps:=⟨fun i=>(a.lookup i).getD [],fun i=>(b.lookup i).getD [],c⟩
def k13:=kp [] [] q13
def k19:=kp [(0,q19)] [] q19
def k20:=kp [] [] q20
def k25:=kp [] [] q25
def k26:=kp [(1,q26_1),(0,q26)] [(7,q26_1)] q26
def k30:=kp [(0,q30_0),(2,q30_2),(1,q30_2)] [] q30
def k31:=kp [(1,q31_1),(0,q31_1)] [] q31
def k32:=kp [] [] q32
def k33:=kp [] [] q33
def k37:=kp [] [] q37
def k38:=kp [(1,q38_1),(0,q38_0)] [(3,q38_1)] q38
def k39:=kp [] [] q39
def k40:=kp [] [] q40
def k41:=kp [] [] q41
def k44:=kp [] [] q44
def k45:=kp [] [] q31_1
def k46:=kp [(1,q46_1),(0,q46_0)] [(1,q46_1)] q46_0
def k47:=kp [(0,q47_0)] [] q47
def k48:=kp [] [] [Z,Z,Z,Z,Z,Z,Z,Z,Z,Z,Z,Z,Z,Z]
def k49:=kp [(2,q49_2),(1,q49_1),(0,q49_0)] [(5,q49_1)] q49
def k50:=kp [] [] q183_0
def k51:=kp [] [] q51
def k52:=kp [] [] q52
def k53:=kp [] [] q53
def k55:=kp [] [] q55
def k56:=kp [] [] q56
def k57:=kp [] [] q57
def k58:=kp [] [] q56
def k59:=kp [(1,q59_1),(0,q59_0)] [(2,q59_1)] q59
def k60:=kp [] [] q31
def k61:=kp [] [] q61
def k62:=kp [(1,q62_1),(2,q62_1),(3,q62_1),(0,q62_0),(4,q62_1)] [] q62
def k63:=kp [(1,q63_1),(0,q63_0)] [(3,q63_1)] q63
def k64:=kp [] [] q64
def k65:=kp [] [] q65
def k66:=kp [] [] q66
def k67:=kp [(1,q67_1),(0,q67_0)] [(3,q67_1)] q67
def k68:=kp [] [] q68
def k69:=kp [] [] q69
def k70:=kp [] [] q19
def k71:=kp [] [] q71
def k72:=kp [] [] q72
def k73:=kp [] [] q73
def k74:=kp [(1,q74_1),(0,q74)] [(5,q74_1)] q74
def k75:=kp [] [] q75
def k76:=kp [] [] q76
def k77:=kp [(1,q77_1),(0,q77_0)] [(3,q77_1)] q77
def k78:=kp [] [] q78
def k79:=kp [(0,q79_0)] [] q79
def k80:=kp [(0,q67)] [] q80
def k82:=kp [] [] q82
def k83:=kp [] [] q83
def k84:=kp [(0,q84_0)] [] q84
def k85:=kp [] [] q85
def k86:=kp [(1,q86_1),(0,q86_0)] [(2,q86_1)] q86
def k87:=kp [] [] q82
def k88:=kp [(1,q88_1),(0,q88_1),(2,q88_2),(5,q88_5),(4,q88_4),(3,q88_3)] [(36,q88_4)] q88
def k89:=kp [] [] q68
def k90:=kp [] [] q68
def k91:=kp [] [] q91
def k92:=kp [] [] q91
def k94:=kp [] [] q94
def k95:=kp [] [] q95
def k96:=kp [] [] q96
def k97:=kp [(1,q97_1),(0,q97_0)] [(10,q97_1)] q97
def k99:=kp [] [] q99
def k100:=kp [] [] q96
def k101:=kp [] [] q101
def k102:=kp [] [] q96
def k103:=kp [] [] q103
def k105:=kp [(1,q59_1),(0,q59_0)] [(2,q59_1)] q59
def k162:=kp [(1,q162_1),(0,q162_0)] [(5,q162_1)] q162
def k163:=kp [] [] q163
def k164:=kp [(1,q164_1),(0,q164_0)] [(2,q164_1)] q164
def k167:=kp [] [] q167
def k168:=kp [(1,q168_1),(0,q168_0)] [(4,q168_1)] q168
def k169:=kp [] [] q56
def k170:=kp [(1,q170_1),(0,q170_0)] [(5,q170_1)] q170
def k171:=kp [] [] q171
def k172:=kp [(1,q172_1),(0,q172_0)] [(3,q172_1)] q172
def k173:=kp [] [] q173
def k174:=kp [(0,q174_0),(1,q174_1)] [] q174
def k175:=kp [] [] q175
def k176:=kp [(0,q176_0)] [] q176
def k177:=kp [] [] q177
def k178:=kp [] [] q178
def k179:=kp [(0,q179_0)] [] q179
def k180:=kp [(0,q180_0)] [] q180
def k181:=kp [] [] q181
def k182:=kp [(2,q182_2),(1,q182_1),(0,q182_1)] [(20,q182_2)] q182
def k183:=kp [(0,q183_0)] [] q173
def k184:=kp [] [] q184
def k185:=kp [] [] q185
def k186:=kp [(1,q186_0),(0,q186_0)] [(2,q186_0)] q69
def k187:=kp [] [] q187
def k188:=kp [] [] q188
def k189:=kp [] [] q189
def k190:=kp [] [] q167
def k191:=kp [] [] q94
def k192:=kp [] [] q192
def k193:=kp [(0,q193_0)] [] q193
def k194:=kp [(1,q194_1),(0,q194_0)] [(2,q194_1)] q194
def k195:=kp [(1,q195_1),(0,q195_0)] [(4,q195_1)] q195
def k196:=kp [(1,q196_1),(0,q196_0)] [(3,q196_1)] q196
def k197:=kp [(1,q197_0),(0,q197_0)] [(2,q197_0)] q197
def k198:=kp [(1,q198_1),(0,q198_0)] [(5,q198_1)] q198
def k199:=kp [] [] [Z,Z,Z,Z,Z,Z,Z,Z,Z,Z,Z,Z,Z,Z,Z,Z,Z,Z,Z,Z,Z,Z]
def k200:=kp [] [] q200
def k201:=kp [] [] q192
def k203:=kp [(0,q203_0)] [] q203
def k204:=kp [(0,q204_0)] [] q204
def k205:=kp [] [] q205
def k206:=kp [(1,q206_1),(0,q206_0)] [(3,q206_1)] q206
def k207:=kp [] [] q207
def k208:=kp [] [] q75
def k209:=kp [] [] q49
def k210:=kp [] [] q210
def k212:=kp [(1,q212_1),(0,q212_0)] [(2,q212_1)] q19
def k213:=kp [] [] q75
def k214:=kp [] [] q180
def k215:=kp [(1000008,[X,X,X,X,X,X])] [] q215
def k216:=kp [] [] q195_0
def k217:=kp [] [] q217
def k218:=kp [] [] q218
def k225:=kp [] [] q225
def k229:=kp [] [] q212_0
def k235:=kp [(1,q235_1),(0,q235_0),(2,q235_2)] [(6,q235_1)] q235
def k236:=kp [] [] q66
def k240:=kp [] [] q240
def k241:=kp [] [] q31
def k242:=kp [] [] q39
def k243:=kp [] [] q76
def k244:=kp [] [] q195_0
def k245:=kp [] [] q245
def k246:=kp [] [] q179
def k247:=kp [(1,q247_1),(0,q247_0)] [(4,q247_1)] q247
def k248:=kp [(0,q204_0)] [] q248
def k249:=kp [] [] q249
def k251:=kp [(1,q251_1),(2,q251_1),(3,q251_1),(0,q251_0)] [] q206_0
def k252:=kp [(3,q252_3),(4,q252_3),(5,q252_3),(6,q252_6),(7,q252_3),(8,q252_3),(2,q252_6),(1,q252_1),(0,q252_0),(1000018,[X,X,Z,Z]),(1000020,[X,X,X,X,X,Z,Z])] [(5,q252_1)] q252
def k253:=kp [(1,q253_1),(0,q253_0)] [(2,q253_1)] q253
def k254:=kp [] [] [Z,Z,Z,Z,Z,Z,Z,Z,Z,Z,Z,Z,Z]
def k255:=kp [] [] q253
def k256:=kp [] [] q256
def k257:=kp [(1,q257_1),(0,q257_0)] [(2,q257_1)] q257
def k258:=kp [] [] q59
def k260:=kp [] [] q260
def k261:=kp [] [] q261
def k262:=kp [] [] q66
def k263:=kp [] [] q75
def k264:=kp [] [] q76
def k265:=kp [(0,q265_0)] [] q265
def k266:=kp [] [] q266
def k267:=kp [] [] q96
def k268:=kp [] [] q192
theorem c13:cFunc tT k13 f13.mode Tryz.f187 = some f13:=by kernel_rfl
theorem c19:cFunc tT k19 f19.mode Tryz.f53 = some f19:=by kernel_rfl
theorem c20:cFunc tT k20 f20.mode Tryz.f21 = some f20:=by kernel_rfl
theorem c25:cFunc tT k25 f25.mode Tryz.f95 = some f25:=by kernel_rfl
theorem c26:cFunc tT k26 f26.mode Tryz.f133 = some f26:=by kernel_rfl
theorem c30:cFunc tT k30 f30.mode Tryz.f48 = some f30:=by kernel_rfl
theorem c31:cFunc tT k31 f31.mode Tryz.f49 = some f31:=by kernel_rfl
theorem c32:cFunc tT k32 f32.mode Tryz.f50 = some f32:=by kernel_rfl
theorem c33:cFunc tT k33 f33.mode Tryz.f51 = some f33:=by kernel_rfl
theorem c37:cFunc tT k37 f37.mode Tryz.f103 = some f37:=by kernel_rfl
theorem c38:cFunc tT k38 f38.mode Tryz.f126 = some f38:=by kernel_rfl
theorem c39:cFunc tT k39 f39.mode Tryz.f158 = some f39:=by kernel_rfl
theorem c40:cFunc tT k40 f40.mode Tryz.f159 = some f40:=by kernel_rfl
theorem c41:cFunc tT k41 f41.mode Tryz.f160 = some f41:=by kernel_rfl
theorem c44:cFunc tT k44 f44.mode Tryz.f44 = some f44:=by kernel_rfl
theorem c45:cFunc tT k45 f45.mode Tryz.f75 = some f45:=by kernel_rfl
theorem c46:cFunc tT k46 f46.mode Tryz.f76 = some f46:=by kernel_rfl
theorem c47:cFunc tT k47 f47.mode Tryz.f77 = some f47:=by kernel_rfl
theorem c48:cFunc tT k48 f48.mode Tryz.f78 = some f48:=by kernel_rfl
theorem c49:cFunc tT k49 f49.mode Tryz.f79 = some f49:=by kernel_rfl
theorem c50:cFunc tT k50 f50.mode Tryz.f80 = some f50:=by kernel_rfl
theorem c51:cFunc tT k51 f51.mode Tryz.f97 = some f51:=by kernel_rfl
theorem c52:cFunc tT k52 f52.mode Tryz.f115 = some f52:=by kernel_rfl
theorem c53:cFunc tT k53 f53.mode Tryz.f124 = some f53:=by kernel_rfl
theorem c55:cFunc tT k55 f55.mode Tryz.f96 = some f55:=by kernel_rfl
theorem c56:cFunc tT k56 f56.mode Tryz.f154 = some f56:=by kernel_rfl
theorem c57:cFunc tT k57 f57.mode Tryz.f155 = some f57:=by kernel_rfl
theorem c58:cFunc tT k58 f58.mode Tryz.f156 = some f58:=by kernel_rfl
theorem c59:cFunc tT k59 f59.mode Tryz.f178 = some f59:=by kernel_rfl
theorem c60:cFunc tT k60 f60.mode Tryz.f179 = some f60:=by kernel_rfl
theorem c61:cFunc tT k61 f61.mode Tryz.f180 = some f61:=by kernel_rfl
theorem c62:cFunc tT k62 f62.mode Tryz.f106 = some f62:=by kernel_rfl
theorem c63:cFunc tT k63 f63.mode Tryz.f107 = some f63:=by kernel_rfl
theorem c64:cFunc tT k64 f64.mode Tryz.f108 = some f64:=by kernel_rfl
theorem c65:cFunc tT k65 f65.mode Tryz.f109 = some f65:=by kernel_rfl
theorem c66:cFunc tT k66 f66.mode Tryz.f110 = some f66:=by kernel_rfl
theorem c67:cFunc tT k67 f67.mode Tryz.f71 = some f67:=by kernel_rfl
theorem c68:cFunc tT k68 f68.mode Tryz.f111 = some f68:=by kernel_rfl
theorem c69:cFunc tT k69 f69.mode Tryz.f112 = some f69:=by kernel_rfl
theorem c70:cFunc tT k70 f70.mode Tryz.f113 = some f70:=by kernel_rfl
theorem c71:cFunc tT k71 f71.mode Tryz.f128 = some f71:=by kernel_rfl
theorem c72:cFunc tT k72 f72.mode Tryz.f129 = some f72:=by kernel_rfl
theorem c73:cFunc tT k73 f73.mode Tryz.f130 = some f73:=by kernel_rfl
theorem c74:cFunc tT k74 f74.mode Tryz.f147 = some f74:=by kernel_rfl
theorem c75:cFunc tT k75 f75.mode Tryz.f191 = some f75:=by kernel_rfl
theorem c76:cFunc tT k76 f76.mode Tryz.f138 = some f76:=by kernel_rfl
theorem c77:cFunc tT k77 f77.mode Tryz.f139 = some f77:=by kernel_rfl
theorem c78:cFunc tT k78 f78.mode Tryz.f140 = some f78:=by kernel_rfl
theorem c79:cFunc tT k79 f79.mode Tryz.f141 = some f79:=by kernel_rfl
theorem c80:cFunc tT k80 f80.mode Tryz.f142 = some f80:=by kernel_rfl
theorem c82:cFunc tT k82 f82.mode Tryz.f144 = some f82:=by kernel_rfl
theorem c83:cFunc tT k83 f83.mode Tryz.f145 = some f83:=by kernel_rfl
theorem c84:cFunc tT k84 f84.mode Tryz.f146 = some f84:=by kernel_rfl
theorem c85:cFunc tT k85 f85.mode Tryz.f157 = some f85:=by kernel_rfl
theorem c86:cFunc tT k86 f86.mode Tryz.f174 = some f86:=by kernel_rfl
theorem c87:cFunc tT k87 f87.mode Tryz.f175 = some f87:=by kernel_rfl
theorem c88:cFunc tT k88 f88.mode Tryz.f166 = some f88:=by kernel_rfl
theorem c89:cFunc tT k89 f89.mode Tryz.f167 = some f89:=by kernel_rfl
theorem c90:cFunc tT k90 f90.mode Tryz.f168 = some f90:=by kernel_rfl
theorem c91:cFunc tT k91 f91.mode Tryz.f169 = some f91:=by kernel_rfl
theorem c92:cFunc tT k92 f92.mode Tryz.f170 = some f92:=by kernel_rfl
theorem c94:cFunc tT k94 f94.mode Tryz.f172 = some f94:=by kernel_rfl
theorem c95:cFunc tT k95 f95.mode Tryz.f173 = some f95:=by kernel_rfl
theorem c96:cFunc tT k96 f96.mode Tryz.f183 = some f96:=by kernel_rfl
theorem c97:cFunc tT k97 f97.mode Tryz.f184 = some f97:=by kernel_rfl
theorem c99:cFunc tT k99 f99.mode Tryz.f186 = some f99:=by kernel_rfl
theorem c100:cFunc tT k100 f100.mode Tryz.f98 = some f100:=by kernel_rfl
theorem c101:cFunc tT k101 f101.mode Tryz.f188 = some f101:=by kernel_rfl
theorem c102:cFunc tT k102 f102.mode Tryz.f131 = some f102:=by kernel_rfl
theorem c103:cFunc tT k103 f103.mode Tryz.f192 = some f103:=by kernel_rfl
theorem c105:cFunc tT k105 f105.mode Tryz.f195 = some f105:=by kernel_rfl
theorem c162:cFunc tT k162 f162.mode Tryz.f52 = some f162:=by kernel_rfl
theorem c163:cFunc tT k163 f163.mode Tryz.f17 = some f163:=by kernel_rfl
theorem c164:cFunc tT k164 f164.mode Tryz.f29 = some f164:=by kernel_rfl
theorem c167:cFunc tT k167 f167.mode Tryz.f58 = some f167:=by kernel_rfl
theorem c168:cFunc tT k168 f168.mode Tryz.f45 = some f168:=by kernel_rfl
theorem c169:cFunc tT k169 f169.mode Tryz.f27 = some f169:=by kernel_rfl
theorem c170:cFunc tT k170 f170.mode Tryz.f81 = some f170:=by kernel_rfl
theorem c171:cFunc tT k171 f171.mode Tryz.f82 = some f171:=by kernel_rfl
theorem c172:cFunc tT k172 f172.mode Tryz.f26 = some f172:=by kernel_rfl
theorem c173:cFunc tT k173 f173.mode Tryz.f83 = some f173:=by kernel_rfl
theorem c174:cFunc tT k174 f174.mode Tryz.f84 = some f174:=by kernel_rfl
theorem c175:cFunc tT k175 f175.mode Tryz.f41 = some f175:=by kernel_rfl
theorem c176:cFunc tT k176 f176.mode Tryz.f55 = some f176:=by kernel_rfl
theorem c177:cFunc tT k177 f177.mode Tryz.f91 = some f177:=by kernel_rfl
theorem c178:cFunc tT k178 f178.mode Tryz.f67 = some f178:=by kernel_rfl
theorem c179:cFunc tT k179 f179.mode Tryz.f68 = some f179:=by kernel_rfl
theorem c180:cFunc tT k180 f180.mode Tryz.f69 = some f180:=by kernel_rfl
theorem c181:cFunc tT k181 f181.mode Tryz.f54 = some f181:=by kernel_rfl
theorem c182:cFunc tT k182 f182.mode Tryz.f92 = some f182:=by kernel_rfl
theorem c183:cFunc tT k183 f183.mode Tryz.f114 = some f183:=by kernel_rfl
theorem c184:cFunc tT k184 f184.mode Tryz.f116 = some f184:=by kernel_rfl
theorem c185:cFunc tT k185 f185.mode Tryz.f117 = some f185:=by kernel_rfl
theorem c186:cFunc tT k186 f186.mode Tryz.f118 = some f186:=by kernel_rfl
theorem c187:cFunc tT k187 f187.mode Tryz.f99 = some f187:=by kernel_rfl
theorem c188:cFunc tT k188 f188.mode Tryz.f119 = some f188:=by kernel_rfl
theorem c189:cFunc tT k189 f189.mode Tryz.f120 = some f189:=by kernel_rfl
theorem c190:cFunc tT k190 f190.mode Tryz.f62 = some f190:=by kernel_rfl
theorem c191:cFunc tT k191 f191.mode Tryz.f63 = some f191:=by kernel_rfl
theorem c192:cFunc tT k192 f192.mode Tryz.f64 = some f192:=by kernel_rfl
theorem c193:cFunc tT k193 f193.mode Tryz.f87 = some f193:=by kernel_rfl
theorem c194:cFunc tT k194 f194.mode Tryz.f88 = some f194:=by kernel_rfl
theorem c195:cFunc tT k195 f195.mode Tryz.f30 = some f195:=by kernel_rfl
theorem c196:cFunc tT k196 f196.mode Tryz.f89 = some f196:=by kernel_rfl
theorem c197:cFunc tT k197 f197.mode Tryz.f90 = some f197:=by kernel_rfl
theorem c198:cFunc tT k198 f198.mode Tryz.f122 = some f198:=by kernel_rfl
theorem c199:cFunc tT k199 f199.mode Tryz.f123 = some f199:=by kernel_rfl
theorem c200:cFunc tT k200 f200.mode Tryz.f100 = some f200:=by kernel_rfl
theorem c201:cFunc tT k201 f201.mode Tryz.f101 = some f201:=by kernel_rfl
theorem c203:cFunc tT k203 f203.mode Tryz.f85 = some f203:=by kernel_rfl
theorem c204:cFunc tT k204 f204.mode Tryz.f86 = some f204:=by kernel_rfl
theorem c205:cFunc tT k205 f205.mode Tryz.f93 = some f205:=by kernel_rfl
theorem c206:cFunc tT k206 f206.mode Tryz.f148 = some f206:=by kernel_rfl
theorem c207:cFunc tT k207 f207.mode Tryz.f149 = some f207:=by kernel_rfl
theorem c208:cFunc tT k208 f208.mode Tryz.f150 = some f208:=by kernel_rfl
theorem c209:cFunc tT k209 f209.mode Tryz.f151 = some f209:=by kernel_rfl
theorem c210:cFunc tT k210 f210.mode Tryz.f152 = some f210:=by kernel_rfl
theorem c212:cFunc tT k212 f212.mode Tryz.f121 = some f212:=by kernel_rfl
theorem c213:cFunc tT k213 f213.mode Tryz.f176 = some f213:=by kernel_rfl
theorem c214:cFunc tT k214 f214.mode Tryz.f177 = some f214:=by kernel_rfl
theorem c215:cFunc tT k215 f215.mode Tryz.f189 = some f215:=by kernel_rfl
theorem c216:cFunc tT k216 f216.mode Tryz.f190 = some f216:=by kernel_rfl
theorem c217:cFunc tT k217 f217.mode Tryz.f193 = some f217:=by kernel_rfl
theorem c218:cFunc tT k218 f218.mode Tryz.f194 = some f218:=by kernel_rfl
theorem c225:cFunc tT k225 f225.mode Tryz.f9 = some f225:=by kernel_rfl
theorem c229:cFunc tT k229 f229.mode Tryz.f13 = some f229:=by kernel_rfl
theorem c235:cFunc tT k235 f235.mode Tryz.f20 = some f235:=by kernel_rfl
theorem c236:cFunc tT k236 f236.mode Tryz.f23 = some f236:=by kernel_rfl
theorem c240:cFunc tT k240 f240.mode Tryz.f32 = some f240:=by kernel_rfl
theorem c241:cFunc tT k241 f241.mode Tryz.f33 = some f241:=by kernel_rfl
theorem c242:cFunc tT k242 f242.mode Tryz.f34 = some f242:=by kernel_rfl
theorem c243:cFunc tT k243 f243.mode Tryz.f35 = some f243:=by kernel_rfl
theorem c244:cFunc tT k244 f244.mode Tryz.f36 = some f244:=by kernel_rfl
theorem c245:cFunc tT k245 f245.mode Tryz.f37 = some f245:=by kernel_rfl
theorem c246:cFunc tT k246 f246.mode Tryz.f38 = some f246:=by kernel_rfl
theorem c247:cFunc tT k247 f247.mode Tryz.f39 = some f247:=by kernel_rfl
theorem c248:cFunc tT k248 f248.mode Tryz.f40 = some f248:=by kernel_rfl
theorem c249:cFunc tT k249 f249.mode Tryz.f42 = some f249:=by kernel_rfl
theorem c251:cFunc tT k251 f251.mode Tryz.f46 = some f251:=by kernel_rfl
theorem c252:cFunc tT k252 f252.mode Tryz.f47 = some f252:=by kernel_rfl
theorem c253:cFunc tT k253 f253.mode Tryz.f56 = some f253:=by kernel_rfl
theorem c254:cFunc tT k254 f254.mode Tryz.f57 = some f254:=by kernel_rfl
theorem c255:cFunc tT k255 f255.mode Tryz.f59 = some f255:=by kernel_rfl
theorem c256:cFunc tT k256 f256.mode Tryz.f60 = some f256:=by kernel_rfl
theorem c257:cFunc tT k257 f257.mode Tryz.f61 = some f257:=by kernel_rfl
theorem c258:cFunc tT k258 f258.mode Tryz.f65 = some f258:=by kernel_rfl
theorem c260:cFunc tT k260 f260.mode Tryz.f70 = some f260:=by kernel_rfl
theorem c261:cFunc tT k261 f261.mode Tryz.f72 = some f261:=by kernel_rfl
theorem c262:cFunc tT k262 f262.mode Tryz.f73 = some f262:=by kernel_rfl
theorem c263:cFunc tT k263 f263.mode Tryz.f74 = some f263:=by kernel_rfl
theorem c264:cFunc tT k264 f264.mode Tryz.f94 = some f264:=by kernel_rfl
theorem c265:cFunc tT k265 f265.mode Tryz.f105 = some f265:=by kernel_rfl
theorem c266:cFunc tT k266 f266.mode Tryz.f125 = some f266:=by kernel_rfl
theorem c267:cFunc tT k267 f267.mode Tryz.f127 = some f267:=by kernel_rfl
theorem c268:cFunc tT k268 f268.mode Tryz.f153 = some f268:=by kernel_rfl
def fnT:Nat→Option SFunc
 | 13=>some f13
 | 19=>some f19
 | 20=>some f20
 | 25=>some f25
 | 26=>some f26
 | 30=>some f30
 | 31=>some f31
 | 32=>some f32
 | 33=>some f33
 | 37=>some f37
 | 38=>some f38
 | 39=>some f39
 | 40=>some f40
 | 41=>some f41
 | 44=>some f44
 | 45=>some f45
 | 46=>some f46
 | 47=>some f47
 | 48=>some f48
 | 49=>some f49
 | 50=>some f50
 | 51=>some f51
 | 52=>some f52
 | 53=>some f53
 | 55=>some f55
 | 56=>some f56
 | 57=>some f57
 | 58=>some f58
 | 59=>some f59
 | 60=>some f60
 | 61=>some f61
 | 62=>some f62
 | 63=>some f63
 | 64=>some f64
 | 65=>some f65
 | 66=>some f66
 | 67=>some f67
 | 68=>some f68
 | 69=>some f69
 | 70=>some f70
 | 71=>some f71
 | 72=>some f72
 | 73=>some f73
 | 74=>some f74
 | 75=>some f75
 | 76=>some f76
 | 77=>some f77
 | 78=>some f78
 | 79=>some f79
 | 80=>some f80
 | 82=>some f82
 | 83=>some f83
 | 84=>some f84
 | 85=>some f85
 | 86=>some f86
 | 87=>some f87
 | 88=>some f88
 | 89=>some f89
 | 90=>some f90
 | 91=>some f91
 | 92=>some f92
 | 94=>some f94
 | 95=>some f95
 | 96=>some f96
 | 97=>some f97
 | 99=>some f99
 | 100=>some f100
 | 101=>some f101
 | 102=>some f102
 | 103=>some f103
 | 105=>some f105
 | 162=>some f162
 | 163=>some f163
 | 164=>some f164
 | 167=>some f167
 | 168=>some f168
 | 169=>some f169
 | 170=>some f170
 | 171=>some f171
 | 172=>some f172
 | 173=>some f173
 | 174=>some f174
 | 175=>some f175
 | 176=>some f176
 | 177=>some f177
 | 178=>some f178
 | 179=>some f179
 | 180=>some f180
 | 181=>some f181
 | 182=>some f182
 | 183=>some f183
 | 184=>some f184
 | 185=>some f185
 | 186=>some f186
 | 187=>some f187
 | 188=>some f188
 | 189=>some f189
 | 190=>some f190
 | 191=>some f191
 | 192=>some f192
 | 193=>some f193
 | 194=>some f194
 | 195=>some f195
 | 196=>some f196
 | 197=>some f197
 | 198=>some f198
 | 199=>some f199
 | 200=>some f200
 | 201=>some f201
 | 203=>some f203
 | 204=>some f204
 | 205=>some f205
 | 206=>some f206
 | 207=>some f207
 | 208=>some f208
 | 209=>some f209
 | 210=>some f210
 | 212=>some f212
 | 213=>some f213
 | 214=>some f214
 | 215=>some f215
 | 216=>some f216
 | 217=>some f217
 | 218=>some f218
 | 225=>some f225
 | 229=>some f229
 | 235=>some f235
 | 236=>some f236
 | 240=>some f240
 | 241=>some f241
 | 242=>some f242
 | 243=>some f243
 | 244=>some f244
 | 245=>some f245
 | 246=>some f246
 | 247=>some f247
 | 248=>some f248
 | 249=>some f249
 | 251=>some f251
 | 252=>some f252
 | 253=>some f253
 | 254=>some f254
 | 255=>some f255
 | 256=>some f256
 | 257=>some f257
 | 258=>some f258
 | 260=>some f260
 | 261=>some f261
 | 262=>some f262
 | 263=>some f263
 | 264=>some f264
 | 265=>some f265
 | 266=>some f266
 | 267=>some f267
 | 268=>some f268
 | _=>none
end Go.Proofs.YteiaohbhlapklaaGreatDoor
