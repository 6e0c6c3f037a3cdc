/- A part of the proof: functions of the program in the evaluator's code, and what they come to. Conditions: none; definitions and theorems that the statement's proof uses. -/
import Derived.Test.YteiaohbhlapklaaGreatDoorSettPvFns2
/- What functions reach; what is asked of an environment to run one. Conditions: none; definitions. -/
namespace Go.Pv
def fnAll:Nat→Option SFunc
 | 13=>some f13
 | 19=>some f19
 | 20=>some f20
 | 25=>some f25
 | 26=>some f26
 | 30=>some f30
 | 31=>some f31
 | 32=>some f32
 | 33=>some f33
 | 37=>some f37
 | 38=>some f38
 | 39=>some f39
 | 40=>some f40
 | 41=>some f41
 | 44=>some f44
 | 45=>some f45
 | 46=>some f46
 | 47=>some f47
 | 48=>some f48
 | 49=>some f49
 | 50=>some f50
 | 51=>some f51
 | 52=>some f52
 | 53=>some f53
 | 55=>some f55
 | 56=>some f56
 | 57=>some f57
 | 58=>some f58
 | 59=>some f59
 | 60=>some f60
 | 61=>some f61
 | 62=>some f62
 | 63=>some f63
 | 64=>some f64
 | 65=>some f65
 | 66=>some f66
 | 67=>some f67
 | 68=>some f68
 | 69=>some f69
 | 70=>some f70
 | 71=>some f71
 | 72=>some f72
 | 73=>some f73
 | 74=>some f74
 | 75=>some f75
 | 76=>some f76
 | 77=>some f77
 | 78=>some f78
 | 79=>some f79
 | 80=>some f80
 | 82=>some f82
 | 83=>some f83
 | 84=>some f84
 | 85=>some f85
 | 86=>some f86
 | 87=>some f87
 | 88=>some f88
 | 89=>some f89
 | 90=>some f90
 | 91=>some f91
 | 92=>some f92
 | 94=>some f94
 | 95=>some f95
 | 96=>some f96
 | 97=>some f97
 | 99=>some f99
 | 100=>some f100
 | 101=>some f101
 | 102=>some f102
 | 103=>some f103
 | 105=>some f105
 | 162=>some f162
 | 163=>some f163
 | 164=>some f164
 | 167=>some f167
 | 168=>some f168
 | 169=>some f169
 | 170=>some f170
 | 171=>some f171
 | 172=>some f172
 | 173=>some f173
 | 174=>some f174
 | 175=>some f175
 | 176=>some f176
 | 177=>some f177
 | 178=>some f178
 | 179=>some f179
 | 180=>some f180
 | 181=>some f181
 | 182=>some f182
 | 183=>some f183
 | 184=>some f184
 | 185=>some f185
 | 186=>some f186
 | 187=>some f187
 | 188=>some f188
 | 189=>some f189
 | 190=>some f190
 | 191=>some f191
 | 192=>some f192
 | 193=>some f193
 | 194=>some f194
 | 195=>some f195
 | 196=>some f196
 | 197=>some f197
 | 198=>some f198
 | 199=>some f199
 | 200=>some f200
 | 201=>some f201
 | 203=>some f203
 | 204=>some f204
 | 205=>some f205
 | 206=>some f206
 | 207=>some f207
 | 208=>some f208
 | 209=>some f209
 | 210=>some f210
 | 212=>some f212
 | 213=>some f213
 | 214=>some f214
 | 215=>some f215
 | 216=>some f216
 | 217=>some f217
 | 218=>some f218
 | 225=>some f225
 | 229=>some f229
 | 235=>some f235
 | 236=>some f236
 | 240=>some f240
 | 241=>some f241
 | 242=>some f242
 | 243=>some f243
 | 244=>some f244
 | 245=>some f245
 | 246=>some f246
 | 247=>some f247
 | 248=>some f248
 | 249=>some f249
 | 251=>some f251
 | 252=>some f252
 | 253=>some f253
 | 254=>some f254
 | 255=>some f255
 | 256=>some f256
 | 257=>some f257
 | 258=>some f258
 | 260=>some f260
 | 261=>some f261
 | 262=>some f262
 | 263=>some f263
 | 264=>some f264
 | 265=>some f265
 | 266=>some f266
 | 267=>some f267
 | 268=>some f268
 | _=>none
def rch:Nat→List Nat
 | 13=>[13,25,26,38,39,40,41,56,57,58,59,60,61,75]
 | 19=>[19]
 | 20=>[13,20,25,26,30,31,32,33,38,39,40,41,44,45,46,47,48,49,50,56,57,58,59,60,61,62,63,64,65,66,67,68,69,70,75,76,77,78,79,80,81,82,83,84,88,89,90,91,92,94,95,96,97,98,99,100,101,102,103,104,105]
 | 25=>[25,38,56,57,58]
 | 26=>[26,39,40,41,59,60,61,75]
 | 30=>[30,32,44,45,46,47,62,63,64,65,66,67,76,77,78,79,80,81,88,89,90,91,92,96,97,98,99,100,102,104]
 | 31=>[31]
 | 32=>[32,44,46,47,62,63,64,65,66,67,76,77,78,79,80,81,88,89,90,91,92,96,97,98,99,100,102,104]
 | 33=>[13,25,26,33,38,39,40,41,44,48,49,50,56,57,58,59,60,61,68,69,70,75,82,83,84,94,95,101,103,105]
 | 37=>[26,37,39,40,41,55,59,60,61,75]
 | 38=>[38,56,57,58]
 | 39=>[39,59,60]
 | 40=>[39,40,41,59,60,61,75]
 | 41=>[41,61,75]
 | 44=>[44]
 | 45=>[45]
 | 46=>[44,46,47,62,63,64,65,66,67,76,77,78,79,80,81,88,89,90,91,92,96,97,98,99,100,102,104]
 | 47=>[44,47,62,63,64,65,66,67,76,77,78,79,80,81,88,89,90,91,92,96,97,98,99,100,102,104]
 | 48=>[48]
 | 49=>[13,25,26,38,39,40,41,49,50,56,57,58,59,60,61,68,69,70,75,82,83,84,94,95,101,103,105]
 | 50=>[50,70]
 | 51=>[51,71,72,73,85]
 | 52=>[52,53,74,86,87]
 | 53=>[53]
 | 55=>[55]
 | 56=>[56]
 | 57=>[57]
 | 58=>[58]
 | 59=>[59]
 | 60=>[60]
 | 61=>[61,75]
 | 62=>[44,62,66,81]
 | 63=>[44,62,63,66,76,81]
 | 64=>[44,64,77,78]
 | 65=>[65,79,80,88,89,90,91,92,96,97,98,99,100,102,104]
 | 66=>[66,81]
 | 67=>[44,67]
 | 68=>[68,82,83]
 | 69=>[13,25,26,38,39,40,41,49,50,56,57,58,59,60,61,68,69,70,75,82,83,84,94,95,101,103,105]
 | 70=>[70]
 | 71=>[71,85]
 | 72=>[72,85]
 | 73=>[73]
 | 74=>[74,86,87]
 | 75=>[75]
 | 76=>[44,62,66,76,81]
 | 77=>[77]
 | 78=>[78]
 | 79=>[79,88,96,97]
 | 80=>[80,89,90,91,92,98,99,100,102,104]
 | 82=>[82]
 | 83=>[83]
 | 84=>[13,25,26,38,39,40,41,49,50,56,57,58,59,60,61,68,69,70,75,82,83,84,94,95,101,103,105]
 | 85=>[85]
 | 86=>[86]
 | 87=>[87]
 | 88=>[88,96,97]
 | 89=>[89,98]
 | 90=>[90,98]
 | 91=>[91,98,99,100,102,104]
 | 92=>[92,98,99,100,102,104]
 | 94=>[13,25,26,38,39,40,41,50,56,57,58,59,60,61,68,70,75,82,83,94,95,101,103,105]
 | 95=>[50,70,82,83,95]
 | 96=>[96]
 | 97=>[96,97]
 | 99=>[99]
 | 100=>[100,102,104]
 | 101=>[50,68,70,82,83,95,101,103,105]
 | 102=>[102,104]
 | 103=>[103,105]
 | 105=>[105]
 | 162=>[19,51,52,53,71,72,73,74,85,86,87,162,170,171,172,173,174,182,183,184,185,186,187,188,189,205,206,207]
 | 163=>[51,71,72,73,85,163,175,190,191,192]
 | 164=>[19,164,172,176,193,194,195,196,197]
 | 167=>[19,51,71,72,73,74,85,86,87,164,167,172,176,177,193,194,195,196,197,198,199,208,209,210,213,214,215,216,217,218]
 | 168=>[38,56,57,58,168,178,179,180,200,201,202]
 | 169=>[38,56,57,58,168,169,178,179,180,181,200,201,202,203,204,212]
 | 170=>[51,71,72,73,85,170,182,183]
 | 171=>[51,52,53,71,72,73,74,85,86,87,171]
 | 172=>[19,172]
 | 173=>[51,71,72,73,85,170,173,182,183,184,188,189,206,207]
 | 174=>[19,51,53,71,72,73,85,170,174,182,183,185,186,187,188,189,205,206,207]
 | 175=>[51,71,72,73,85,175,190,191,192]
 | 176=>[19,172,176,193,194,195,196,197]
 | 177=>[19,51,71,72,73,74,85,86,87,177,198,199,208,209,210,213,214,215,216,217,218]
 | 178=>[38,56,57,58,178,179,180,200,201,202]
 | 179=>[179]
 | 180=>[38,56,57,58,180,200,201,202]
 | 181=>[179,181,203,204,212]
 | 182=>[51,71,72,73,85,182]
 | 183=>[183]
 | 184=>[51,71,72,73,85,170,182,183,184,188,189,206,207]
 | 185=>[185]
 | 186=>[186]
 | 187=>[19,51,53,71,72,73,85,185,186,187,205]
 | 188=>[51,71,72,73,85,170,182,183,188,206]
 | 189=>[189,207]
 | 190=>[190]
 | 191=>[51,71,72,73,85,190,191]
 | 192=>[190,192]
 | 193=>[19,193]
 | 194=>[19,193,194]
 | 195=>[19,195]
 | 196=>[196]
 | 197=>[19,172,197]
 | 198=>[19,51,71,72,73,74,85,86,87,198,199,208,209,210,213,214,215,216,217,218]
 | 199=>[199,210]
 | 200=>[38,56,57,58,200]
 | 201=>[201]
 | 203=>[179,203,212]
 | 204=>[204]
 | 205=>[51,53,71,72,73,85,205]
 | 206=>[183,206]
 | 207=>[207]
 | 208=>[208,210,213]
 | 209=>[19,51,71,72,73,74,85,86,87,198,199,208,209,210,213,214,215,216,217,218]
 | 210=>[210]
 | 212=>[179,212]
 | 213=>[210,213]
 | 214=>[19,51,71,72,73,74,85,86,87,198,199,208,209,210,213,214,215,216,217,218]
 | 215=>[19,51,71,72,73,74,85,86,87,199,208,210,213,215,216,217,218]
 | 216=>[199,210,213,216]
 | 217=>[51,71,72,73,74,85,86,87,217]
 | 218=>[19,199,208,210,213,216,218]
 | 225=>[13,19,20,25,26,30,31,32,33,37,38,39,40,41,44,45,46,47,48,49,50,51,52,53,55,56,57,58,59,60,61,62,63,64,65,66,67,68,69,70,71,72,73,74,75,76,77,78,79,80,81,82,83,84,85,86,87,88,89,90,91,92,94,95,96,97,98,99,100,101,102,103,104,105,162,163,164,167,168,169,170,171,172,173,174,175,176,177,178,179,180,181,182,183,184,185,186,187,188,189,190,191,192,193,194,195,196,197,198,199,200,201,202,203,204,205,206,207,208,209,210,212,213,214,215,216,217,218,225,235,236,240,241,242,243,244,245,246,249,251,252,253,254,255,256,258,260,261,262,263,264,265,266,267,268]
 | 229=>[13,19,20,25,26,30,31,32,33,37,38,39,40,41,44,45,46,47,48,49,50,51,52,53,55,56,57,58,59,60,61,62,63,64,65,66,67,68,69,70,71,72,73,74,75,76,77,78,79,80,81,82,83,84,85,86,87,88,89,90,91,92,94,95,96,97,98,99,100,101,102,103,104,105,163,168,169,171,172,175,178,179,180,181,182,190,191,192,200,201,202,203,204,205,212,229,235,240,242,244,246,247,248,249,251,252,253,254,255,256,257,258,260,261,262,263,264,265,266,267,268]
 | 235=>[25,26,37,38,39,40,41,44,55,56,57,58,59,60,61,67,75,100,102,104,168,169,178,179,180,181,200,201,202,203,204,212,235,249,251,252,256,258,260,261,262,263,264,265,266,267,268]
 | 236=>[19,51,52,53,71,72,73,74,85,86,87,162,170,171,172,173,174,182,183,184,185,186,187,188,189,205,206,207,236]
 | 240=>[13,20,25,26,30,31,32,33,37,38,39,40,41,44,45,46,47,48,49,50,55,56,57,58,59,60,61,62,63,64,65,66,67,68,69,70,75,76,77,78,79,80,81,82,83,84,88,89,90,91,92,94,95,96,97,98,99,100,101,102,103,104,105,168,169,178,179,180,181,200,201,202,203,204,212,235,240,244,246,249,251,252,253,254,256,258,260,261,262,263,264,265,266,267,268]
 | 241=>[241]
 | 242=>[242]
 | 243=>[19,51,52,53,71,72,73,74,85,86,87,162,163,170,171,172,173,174,175,182,183,184,185,186,187,188,189,190,191,192,205,206,207,236,243]
 | 244=>[13,20,25,26,30,31,32,33,37,38,39,40,41,44,45,46,47,48,49,50,55,56,57,58,59,60,61,62,63,64,65,66,67,68,69,70,75,76,77,78,79,80,81,82,83,84,88,89,90,91,92,94,95,96,97,98,99,100,101,102,103,104,105,168,169,178,179,180,181,200,201,202,203,204,212,235,244,246,249,251,252,253,254,256,258,260,261,262,263,264,265,266,267,268]
 | 245=>[19,51,52,53,71,72,73,74,85,86,87,162,164,167,170,171,172,173,174,176,177,182,183,184,185,186,187,188,189,193,194,195,196,197,198,199,205,206,207,208,209,210,213,214,215,216,217,218,236,245,255]
 | 246=>[25,38,44,55,56,57,58,100,102,104,168,178,179,180,200,201,202,246,249,256,258,264,266,267,268]
 | 247=>[19,25,26,37,38,39,40,41,44,51,52,53,55,56,57,58,59,60,61,67,71,72,73,74,75,85,86,87,100,102,104,163,168,169,171,172,175,178,179,180,181,182,190,191,192,200,201,202,203,204,205,212,235,246,247,248,249,251,252,255,256,257,258,260,261,262,263,264,265,266,267,268]
 | 248=>[25,26,37,38,39,40,41,44,55,56,57,58,59,60,61,67,75,100,102,104,168,169,178,179,180,181,200,201,202,203,204,212,235,248,249,251,252,256,258,260,261,262,263,264,265,266,267,268]
 | 249=>[25,38,44,55,56,57,58,100,102,104,168,178,179,180,200,201,202,249,256,258,264,266,267,268]
 | 251=>[25,26,37,38,39,40,41,44,55,56,57,58,59,60,61,67,75,251,260]
 | 252=>[25,38,44,55,56,57,58,100,102,104,168,178,179,180,200,201,202,249,252,256,258,261,262,263,264,265,266,267,268]
 | 253=>[253]
 | 254=>[25,38,44,55,56,57,58,100,102,104,168,178,179,180,200,201,202,246,249,254,256,258,264,266,267,268]
 | 255=>[51,53,71,72,73,85,182,205,255]
 | 256=>[25,38,55,56,57,58,256,264,266,267,268]
 | 257=>[19,51,52,53,71,72,73,74,85,86,87,171,172,257]
 | 258=>[100,102,104,258]
 | 260=>[25,26,37,38,39,40,41,55,56,57,58,59,60,61,75,260]
 | 261=>[261]
 | 262=>[104,262]
 | 263=>[263,265]
 | 264=>[38,56,57,58,264,266,267,268]
 | 265=>[265]
 | 266=>[266,268]
 | 267=>[267]
 | 268=>[268]
 | _=>[]
def grch:Nat→List Nat
 | 13=>[0]
 | 19=>[]
 | 20=>[0,1,2,3]
 | 25=>[0]
 | 26=>[]
 | 30=>[1,2,3]
 | 31=>[]
 | 32=>[1,2,3]
 | 33=>[0,1]
 | 37=>[]
 | 38=>[0]
 | 39=>[]
 | 40=>[]
 | 41=>[]
 | 44=>[1]
 | 45=>[]
 | 46=>[1,2,3]
 | 47=>[1,2,3]
 | 48=>[]
 | 49=>[0]
 | 50=>[]
 | 51=>[]
 | 52=>[]
 | 53=>[]
 | 55=>[]
 | 56=>[]
 | 57=>[]
 | 58=>[]
 | 59=>[]
 | 60=>[]
 | 61=>[]
 | 62=>[1]
 | 63=>[1]
 | 64=>[1]
 | 65=>[2,3]
 | 66=>[]
 | 67=>[1]
 | 68=>[]
 | 69=>[0]
 | 70=>[]
 | 71=>[]
 | 72=>[]
 | 73=>[]
 | 74=>[]
 | 75=>[]
 | 76=>[1]
 | 77=>[]
 | 78=>[]
 | 79=>[]
 | 80=>[2,3]
 | 82=>[]
 | 83=>[]
 | 84=>[0]
 | 85=>[]
 | 86=>[]
 | 87=>[]
 | 88=>[]
 | 89=>[2]
 | 90=>[3]
 | 91=>[]
 | 92=>[]
 | 94=>[0]
 | 95=>[]
 | 96=>[]
 | 97=>[]
 | 99=>[]
 | 100=>[]
 | 101=>[]
 | 102=>[]
 | 103=>[]
 | 105=>[]
 | 162=>[]
 | 163=>[]
 | 164=>[]
 | 167=>[]
 | 168=>[0]
 | 169=>[0]
 | 170=>[]
 | 171=>[]
 | 172=>[]
 | 173=>[]
 | 174=>[]
 | 175=>[]
 | 176=>[]
 | 177=>[]
 | 178=>[0]
 | 179=>[]
 | 180=>[0]
 | 181=>[]
 | 182=>[]
 | 183=>[]
 | 184=>[]
 | 185=>[]
 | 186=>[]
 | 187=>[]
 | 188=>[]
 | 189=>[]
 | 190=>[]
 | 191=>[]
 | 192=>[]
 | 193=>[]
 | 194=>[]
 | 195=>[]
 | 196=>[]
 | 197=>[]
 | 198=>[]
 | 199=>[]
 | 200=>[0]
 | 201=>[]
 | 203=>[]
 | 204=>[]
 | 205=>[]
 | 206=>[]
 | 207=>[]
 | 208=>[]
 | 209=>[]
 | 210=>[]
 | 212=>[]
 | 213=>[]
 | 214=>[]
 | 215=>[]
 | 216=>[]
 | 217=>[]
 | 218=>[]
 | 225=>[0,1,2,3]
 | 229=>[0,1,2,3]
 | 235=>[0,1]
 | 236=>[]
 | 240=>[0,1,2,3]
 | 241=>[]
 | 242=>[]
 | 243=>[]
 | 244=>[0,1,2,3]
 | 245=>[]
 | 246=>[0,1]
 | 247=>[0,1]
 | 248=>[0,1]
 | 249=>[0,1]
 | 251=>[0,1]
 | 252=>[0,1]
 | 253=>[]
 | 254=>[0,1]
 | 255=>[]
 | 256=>[0]
 | 257=>[]
 | 258=>[]
 | 260=>[0]
 | 261=>[]
 | 262=>[]
 | 263=>[]
 | 264=>[0]
 | 265=>[]
 | 266=>[]
 | 267=>[]
 | 268=>[]
 | _=>[]
structure Has (j:Nat) (E:Env):Prop where
 fn:∀ k f,k ∈ rch j→fnAll k = some f→E.code k = some f
 gl:∀ g cs,g ∈ grch j→globAll g = some cs→E.glob g = some cs
 ex:∀ k g,k ∈ rch j→extAll k = some g→E.ext k = some g
def subL:List Nat→List Nat→Bool
 | [],_=>true
 | _ :: _,[]=>false
 | a :: as,b :: bs=>if a = b then subL as bs else if b < a then subL (a :: as) bs else false
theorem subL_mem:∀ {as bs:List Nat},subL as bs = true→∀ x ∈ as,x ∈ bs
 | [],_,_,x,hx=>by simp at hx
 | a :: as,[],h,_,_=>by simp [subL] at h
 | a :: as,b :: bs,h,x,hx=>by
  simp only [subL] at h
  split at h
  ·rename_i hab
   subst hab
   rcases List.mem_cons.1 hx with rfl | hx
   ·exact List.mem_cons_self
   ·exact List.mem_cons_of_mem _ (subL_mem h x hx)
  ·split at h
   ·exact List.mem_cons_of_mem _ (subL_mem h x hx)
   ·cases h
theorem Has.to {j:Nat} {E:Env} (H:Has j E) (k:Nat) (h:(subL (rch k) (rch j) && subL (grch k) (grch j)) = true:=by rfl):Has k E:=by
 rw [Bool.and_eq_true] at h
 exact ⟨fun i f hi hf=>H.fn i f (subL_mem h.1 i hi) hf,fun g cs hg hc=>H.gl g cs (subL_mem h.2 g hg) hc,fun i g hi hf=>H.ex i g (subL_mem h.1 i hi) hf⟩
theorem Has.fc {j k:Nat} {E:Env} {f:SFunc} (H:Has j E) (h:(rch j).contains k = true) (hf:fnAll k = some f):E.code k = some f:=H.fn k f (by simpa using h) hf
abbrev Rc (j k:Nat):Prop:=(rch j).contains k = true
variable {j:Nat} {E:Env}
theorem Has.c13 (H:Has j E) (h:Rc j 13:=by rfl):E.code 13 = some f13:=H.fc h rfl
theorem Has.c19 (H:Has j E) (h:Rc j 19:=by rfl):E.code 19 = some f19:=H.fc h rfl
theorem Has.c20 (H:Has j E) (h:Rc j 20:=by rfl):E.code 20 = some f20:=H.fc h rfl
theorem Has.c25 (H:Has j E) (h:Rc j 25:=by rfl):E.code 25 = some f25:=H.fc h rfl
theorem Has.c26 (H:Has j E) (h:Rc j 26:=by rfl):E.code 26 = some f26:=H.fc h rfl
theorem Has.c30 (H:Has j E) (h:Rc j 30:=by rfl):E.code 30 = some f30:=H.fc h rfl
theorem Has.c31 (H:Has j E) (h:Rc j 31:=by rfl):E.code 31 = some f31:=H.fc h rfl
theorem Has.c32 (H:Has j E) (h:Rc j 32:=by rfl):E.code 32 = some f32:=H.fc h rfl
theorem Has.c33 (H:Has j E) (h:Rc j 33:=by rfl):E.code 33 = some f33:=H.fc h rfl
theorem Has.c37 (H:Has j E) (h:Rc j 37:=by rfl):E.code 37 = some f37:=H.fc h rfl
theorem Has.c38 (H:Has j E) (h:Rc j 38:=by rfl):E.code 38 = some f38:=H.fc h rfl
theorem Has.c39 (H:Has j E) (h:Rc j 39:=by rfl):E.code 39 = some f39:=H.fc h rfl
theorem Has.c40 (H:Has j E) (h:Rc j 40:=by rfl):E.code 40 = some f40:=H.fc h rfl
theorem Has.c41 (H:Has j E) (h:Rc j 41:=by rfl):E.code 41 = some f41:=H.fc h rfl
theorem Has.c44 (H:Has j E) (h:Rc j 44:=by rfl):E.code 44 = some f44:=H.fc h rfl
theorem Has.c45 (H:Has j E) (h:Rc j 45:=by rfl):E.code 45 = some f45:=H.fc h rfl
theorem Has.c46 (H:Has j E) (h:Rc j 46:=by rfl):E.code 46 = some f46:=H.fc h rfl
theorem Has.c47 (H:Has j E) (h:Rc j 47:=by rfl):E.code 47 = some f47:=H.fc h rfl
theorem Has.c48 (H:Has j E) (h:Rc j 48:=by rfl):E.code 48 = some f48:=H.fc h rfl
theorem Has.c49 (H:Has j E) (h:Rc j 49:=by rfl):E.code 49 = some f49:=H.fc h rfl
theorem Has.c50 (H:Has j E) (h:Rc j 50:=by rfl):E.code 50 = some f50:=H.fc h rfl
theorem Has.c51 (H:Has j E) (h:Rc j 51:=by rfl):E.code 51 = some f51:=H.fc h rfl
theorem Has.c52 (H:Has j E) (h:Rc j 52:=by rfl):E.code 52 = some f52:=H.fc h rfl
theorem Has.c53 (H:Has j E) (h:Rc j 53:=by rfl):E.code 53 = some f53:=H.fc h rfl
theorem Has.c55 (H:Has j E) (h:Rc j 55:=by rfl):E.code 55 = some f55:=H.fc h rfl
theorem Has.c56 (H:Has j E) (h:Rc j 56:=by rfl):E.code 56 = some f56:=H.fc h rfl
theorem Has.c57 (H:Has j E) (h:Rc j 57:=by rfl):E.code 57 = some f57:=H.fc h rfl
theorem Has.c58 (H:Has j E) (h:Rc j 58:=by rfl):E.code 58 = some f58:=H.fc h rfl
theorem Has.c59 (H:Has j E) (h:Rc j 59:=by rfl):E.code 59 = some f59:=H.fc h rfl
theorem Has.c60 (H:Has j E) (h:Rc j 60:=by rfl):E.code 60 = some f60:=H.fc h rfl
theorem Has.c61 (H:Has j E) (h:Rc j 61:=by rfl):E.code 61 = some f61:=H.fc h rfl
theorem Has.c62 (H:Has j E) (h:Rc j 62:=by rfl):E.code 62 = some f62:=H.fc h rfl
theorem Has.c63 (H:Has j E) (h:Rc j 63:=by rfl):E.code 63 = some f63:=H.fc h rfl
theorem Has.c64 (H:Has j E) (h:Rc j 64:=by rfl):E.code 64 = some f64:=H.fc h rfl
theorem Has.c65 (H:Has j E) (h:Rc j 65:=by rfl):E.code 65 = some f65:=H.fc h rfl
theorem Has.c66 (H:Has j E) (h:Rc j 66:=by rfl):E.code 66 = some f66:=H.fc h rfl
theorem Has.c67 (H:Has j E) (h:Rc j 67:=by rfl):E.code 67 = some f67:=H.fc h rfl
theorem Has.c68 (H:Has j E) (h:Rc j 68:=by rfl):E.code 68 = some f68:=H.fc h rfl
theorem Has.c69 (H:Has j E) (h:Rc j 69:=by rfl):E.code 69 = some f69:=H.fc h rfl
theorem Has.c70 (H:Has j E) (h:Rc j 70:=by rfl):E.code 70 = some f70:=H.fc h rfl
theorem Has.c71 (H:Has j E) (h:Rc j 71:=by rfl):E.code 71 = some f71:=H.fc h rfl
theorem Has.c72 (H:Has j E) (h:Rc j 72:=by rfl):E.code 72 = some f72:=H.fc h rfl
theorem Has.c73 (H:Has j E) (h:Rc j 73:=by rfl):E.code 73 = some f73:=H.fc h rfl
theorem Has.c74 (H:Has j E) (h:Rc j 74:=by rfl):E.code 74 = some f74:=H.fc h rfl
theorem Has.c75 (H:Has j E) (h:Rc j 75:=by rfl):E.code 75 = some f75:=H.fc h rfl
theorem Has.c76 (H:Has j E) (h:Rc j 76:=by rfl):E.code 76 = some f76:=H.fc h rfl
theorem Has.c77 (H:Has j E) (h:Rc j 77:=by rfl):E.code 77 = some f77:=H.fc h rfl
theorem Has.c78 (H:Has j E) (h:Rc j 78:=by rfl):E.code 78 = some f78:=H.fc h rfl
theorem Has.c79 (H:Has j E) (h:Rc j 79:=by rfl):E.code 79 = some f79:=H.fc h rfl
theorem Has.c80 (H:Has j E) (h:Rc j 80:=by rfl):E.code 80 = some f80:=H.fc h rfl
theorem Has.c82 (H:Has j E) (h:Rc j 82:=by rfl):E.code 82 = some f82:=H.fc h rfl
theorem Has.c83 (H:Has j E) (h:Rc j 83:=by rfl):E.code 83 = some f83:=H.fc h rfl
theorem Has.c84 (H:Has j E) (h:Rc j 84:=by rfl):E.code 84 = some f84:=H.fc h rfl
theorem Has.c85 (H:Has j E) (h:Rc j 85:=by rfl):E.code 85 = some f85:=H.fc h rfl
theorem Has.c86 (H:Has j E) (h:Rc j 86:=by rfl):E.code 86 = some f86:=H.fc h rfl
theorem Has.c87 (H:Has j E) (h:Rc j 87:=by rfl):E.code 87 = some f87:=H.fc h rfl
theorem Has.c88 (H:Has j E) (h:Rc j 88:=by rfl):E.code 88 = some f88:=H.fc h rfl
theorem Has.c89 (H:Has j E) (h:Rc j 89:=by rfl):E.code 89 = some f89:=H.fc h rfl
theorem Has.c90 (H:Has j E) (h:Rc j 90:=by rfl):E.code 90 = some f90:=H.fc h rfl
theorem Has.c91 (H:Has j E) (h:Rc j 91:=by rfl):E.code 91 = some f91:=H.fc h rfl
theorem Has.c92 (H:Has j E) (h:Rc j 92:=by rfl):E.code 92 = some f92:=H.fc h rfl
theorem Has.c94 (H:Has j E) (h:Rc j 94:=by rfl):E.code 94 = some f94:=H.fc h rfl
theorem Has.c95 (H:Has j E) (h:Rc j 95:=by rfl):E.code 95 = some f95:=H.fc h rfl
theorem Has.c96 (H:Has j E) (h:Rc j 96:=by rfl):E.code 96 = some f96:=H.fc h rfl
theorem Has.c97 (H:Has j E) (h:Rc j 97:=by rfl):E.code 97 = some f97:=H.fc h rfl
theorem Has.c99 (H:Has j E) (h:Rc j 99:=by rfl):E.code 99 = some f99:=H.fc h rfl
theorem Has.c100 (H:Has j E) (h:Rc j 100:=by rfl):E.code 100 = some f100:=H.fc h rfl
theorem Has.c101 (H:Has j E) (h:Rc j 101:=by rfl):E.code 101 = some f101:=H.fc h rfl
theorem Has.c102 (H:Has j E) (h:Rc j 102:=by rfl):E.code 102 = some f102:=H.fc h rfl
theorem Has.c103 (H:Has j E) (h:Rc j 103:=by rfl):E.code 103 = some f103:=H.fc h rfl
theorem Has.c105 (H:Has j E) (h:Rc j 105:=by rfl):E.code 105 = some f105:=H.fc h rfl
theorem Has.c162 (H:Has j E) (h:Rc j 162:=by rfl):E.code 162 = some f162:=H.fc h rfl
theorem Has.c163 (H:Has j E) (h:Rc j 163:=by rfl):E.code 163 = some f163:=H.fc h rfl
theorem Has.c164 (H:Has j E) (h:Rc j 164:=by rfl):E.code 164 = some f164:=H.fc h rfl
theorem Has.c167 (H:Has j E) (h:Rc j 167:=by rfl):E.code 167 = some f167:=H.fc h rfl
theorem Has.c168 (H:Has j E) (h:Rc j 168:=by rfl):E.code 168 = some f168:=H.fc h rfl
theorem Has.c169 (H:Has j E) (h:Rc j 169:=by rfl):E.code 169 = some f169:=H.fc h rfl
theorem Has.c170 (H:Has j E) (h:Rc j 170:=by rfl):E.code 170 = some f170:=H.fc h rfl
theorem Has.c171 (H:Has j E) (h:Rc j 171:=by rfl):E.code 171 = some f171:=H.fc h rfl
theorem Has.c172 (H:Has j E) (h:Rc j 172:=by rfl):E.code 172 = some f172:=H.fc h rfl
theorem Has.c173 (H:Has j E) (h:Rc j 173:=by rfl):E.code 173 = some f173:=H.fc h rfl
theorem Has.c174 (H:Has j E) (h:Rc j 174:=by rfl):E.code 174 = some f174:=H.fc h rfl
theorem Has.c175 (H:Has j E) (h:Rc j 175:=by rfl):E.code 175 = some f175:=H.fc h rfl
theorem Has.c176 (H:Has j E) (h:Rc j 176:=by rfl):E.code 176 = some f176:=H.fc h rfl
theorem Has.c177 (H:Has j E) (h:Rc j 177:=by rfl):E.code 177 = some f177:=H.fc h rfl
theorem Has.c178 (H:Has j E) (h:Rc j 178:=by rfl):E.code 178 = some f178:=H.fc h rfl
theorem Has.c179 (H:Has j E) (h:Rc j 179:=by rfl):E.code 179 = some f179:=H.fc h rfl
theorem Has.c180 (H:Has j E) (h:Rc j 180:=by rfl):E.code 180 = some f180:=H.fc h rfl
theorem Has.c181 (H:Has j E) (h:Rc j 181:=by rfl):E.code 181 = some f181:=H.fc h rfl
theorem Has.c182 (H:Has j E) (h:Rc j 182:=by rfl):E.code 182 = some f182:=H.fc h rfl
theorem Has.c183 (H:Has j E) (h:Rc j 183:=by rfl):E.code 183 = some f183:=H.fc h rfl
theorem Has.c184 (H:Has j E) (h:Rc j 184:=by rfl):E.code 184 = some f184:=H.fc h rfl
theorem Has.c185 (H:Has j E) (h:Rc j 185:=by rfl):E.code 185 = some f185:=H.fc h rfl
theorem Has.c186 (H:Has j E) (h:Rc j 186:=by rfl):E.code 186 = some f186:=H.fc h rfl
theorem Has.c187 (H:Has j E) (h:Rc j 187:=by rfl):E.code 187 = some f187:=H.fc h rfl
theorem Has.c188 (H:Has j E) (h:Rc j 188:=by rfl):E.code 188 = some f188:=H.fc h rfl
theorem Has.c189 (H:Has j E) (h:Rc j 189:=by rfl):E.code 189 = some f189:=H.fc h rfl
theorem Has.c190 (H:Has j E) (h:Rc j 190:=by rfl):E.code 190 = some f190:=H.fc h rfl
theorem Has.c191 (H:Has j E) (h:Rc j 191:=by rfl):E.code 191 = some f191:=H.fc h rfl
theorem Has.c192 (H:Has j E) (h:Rc j 192:=by rfl):E.code 192 = some f192:=H.fc h rfl
theorem Has.c193 (H:Has j E) (h:Rc j 193:=by rfl):E.code 193 = some f193:=H.fc h rfl
theorem Has.c194 (H:Has j E) (h:Rc j 194:=by rfl):E.code 194 = some f194:=H.fc h rfl
theorem Has.c195 (H:Has j E) (h:Rc j 195:=by rfl):E.code 195 = some f195:=H.fc h rfl
theorem Has.c196 (H:Has j E) (h:Rc j 196:=by rfl):E.code 196 = some f196:=H.fc h rfl
theorem Has.c197 (H:Has j E) (h:Rc j 197:=by rfl):E.code 197 = some f197:=H.fc h rfl
theorem Has.c198 (H:Has j E) (h:Rc j 198:=by rfl):E.code 198 = some f198:=H.fc h rfl
theorem Has.c199 (H:Has j E) (h:Rc j 199:=by rfl):E.code 199 = some f199:=H.fc h rfl
theorem Has.c200 (H:Has j E) (h:Rc j 200:=by rfl):E.code 200 = some f200:=H.fc h rfl
theorem Has.c201 (H:Has j E) (h:Rc j 201:=by rfl):E.code 201 = some f201:=H.fc h rfl
theorem Has.c203 (H:Has j E) (h:Rc j 203:=by rfl):E.code 203 = some f203:=H.fc h rfl
theorem Has.c204 (H:Has j E) (h:Rc j 204:=by rfl):E.code 204 = some f204:=H.fc h rfl
theorem Has.c205 (H:Has j E) (h:Rc j 205:=by rfl):E.code 205 = some f205:=H.fc h rfl
theorem Has.c206 (H:Has j E) (h:Rc j 206:=by rfl):E.code 206 = some f206:=H.fc h rfl
theorem Has.c207 (H:Has j E) (h:Rc j 207:=by rfl):E.code 207 = some f207:=H.fc h rfl
theorem Has.c208 (H:Has j E) (h:Rc j 208:=by rfl):E.code 208 = some f208:=H.fc h rfl
theorem Has.c209 (H:Has j E) (h:Rc j 209:=by rfl):E.code 209 = some f209:=H.fc h rfl
theorem Has.c210 (H:Has j E) (h:Rc j 210:=by rfl):E.code 210 = some f210:=H.fc h rfl
theorem Has.c212 (H:Has j E) (h:Rc j 212:=by rfl):E.code 212 = some f212:=H.fc h rfl
theorem Has.c213 (H:Has j E) (h:Rc j 213:=by rfl):E.code 213 = some f213:=H.fc h rfl
theorem Has.c214 (H:Has j E) (h:Rc j 214:=by rfl):E.code 214 = some f214:=H.fc h rfl
theorem Has.c215 (H:Has j E) (h:Rc j 215:=by rfl):E.code 215 = some f215:=H.fc h rfl
theorem Has.c216 (H:Has j E) (h:Rc j 216:=by rfl):E.code 216 = some f216:=H.fc h rfl
theorem Has.c217 (H:Has j E) (h:Rc j 217:=by rfl):E.code 217 = some f217:=H.fc h rfl
theorem Has.c218 (H:Has j E) (h:Rc j 218:=by rfl):E.code 218 = some f218:=H.fc h rfl
theorem Has.c225 (H:Has j E) (h:Rc j 225:=by rfl):E.code 225 = some f225:=H.fc h rfl
theorem Has.c229 (H:Has j E) (h:Rc j 229:=by rfl):E.code 229 = some f229:=H.fc h rfl
theorem Has.c235 (H:Has j E) (h:Rc j 235:=by rfl):E.code 235 = some f235:=H.fc h rfl
theorem Has.c236 (H:Has j E) (h:Rc j 236:=by rfl):E.code 236 = some f236:=H.fc h rfl
theorem Has.c240 (H:Has j E) (h:Rc j 240:=by rfl):E.code 240 = some f240:=H.fc h rfl
theorem Has.c241 (H:Has j E) (h:Rc j 241:=by rfl):E.code 241 = some f241:=H.fc h rfl
theorem Has.c242 (H:Has j E) (h:Rc j 242:=by rfl):E.code 242 = some f242:=H.fc h rfl
theorem Has.c243 (H:Has j E) (h:Rc j 243:=by rfl):E.code 243 = some f243:=H.fc h rfl
theorem Has.c244 (H:Has j E) (h:Rc j 244:=by rfl):E.code 244 = some f244:=H.fc h rfl
theorem Has.c245 (H:Has j E) (h:Rc j 245:=by rfl):E.code 245 = some f245:=H.fc h rfl
theorem Has.c246 (H:Has j E) (h:Rc j 246:=by rfl):E.code 246 = some f246:=H.fc h rfl
theorem Has.c247 (H:Has j E) (h:Rc j 247:=by rfl):E.code 247 = some f247:=H.fc h rfl
theorem Has.c248 (H:Has j E) (h:Rc j 248:=by rfl):E.code 248 = some f248:=H.fc h rfl
theorem Has.c249 (H:Has j E) (h:Rc j 249:=by rfl):E.code 249 = some f249:=H.fc h rfl
theorem Has.c251 (H:Has j E) (h:Rc j 251:=by rfl):E.code 251 = some f251:=H.fc h rfl
theorem Has.c252 (H:Has j E) (h:Rc j 252:=by rfl):E.code 252 = some f252:=H.fc h rfl
theorem Has.c253 (H:Has j E) (h:Rc j 253:=by rfl):E.code 253 = some f253:=H.fc h rfl
theorem Has.c254 (H:Has j E) (h:Rc j 254:=by rfl):E.code 254 = some f254:=H.fc h rfl
theorem Has.c255 (H:Has j E) (h:Rc j 255:=by rfl):E.code 255 = some f255:=H.fc h rfl
theorem Has.c256 (H:Has j E) (h:Rc j 256:=by rfl):E.code 256 = some f256:=H.fc h rfl
theorem Has.c257 (H:Has j E) (h:Rc j 257:=by rfl):E.code 257 = some f257:=H.fc h rfl
theorem Has.c258 (H:Has j E) (h:Rc j 258:=by rfl):E.code 258 = some f258:=H.fc h rfl
theorem Has.c260 (H:Has j E) (h:Rc j 260:=by rfl):E.code 260 = some f260:=H.fc h rfl
theorem Has.c261 (H:Has j E) (h:Rc j 261:=by rfl):E.code 261 = some f261:=H.fc h rfl
theorem Has.c262 (H:Has j E) (h:Rc j 262:=by rfl):E.code 262 = some f262:=H.fc h rfl
theorem Has.c263 (H:Has j E) (h:Rc j 263:=by rfl):E.code 263 = some f263:=H.fc h rfl
theorem Has.c264 (H:Has j E) (h:Rc j 264:=by rfl):E.code 264 = some f264:=H.fc h rfl
theorem Has.c265 (H:Has j E) (h:Rc j 265:=by rfl):E.code 265 = some f265:=H.fc h rfl
theorem Has.c266 (H:Has j E) (h:Rc j 266:=by rfl):E.code 266 = some f266:=H.fc h rfl
theorem Has.c267 (H:Has j E) (h:Rc j 267:=by rfl):E.code 267 = some f267:=H.fc h rfl
theorem Has.c268 (H:Has j E) (h:Rc j 268:=by rfl):E.code 268 = some f268:=H.fc h rfl
theorem Has.x81 {j:Nat} {E:Env} (H:Has j E) (h:(rch j).contains 81 = true:=by rfl):E.ext 81 = some extIB:=H.ex 81 _ (by simpa using h) rfl
theorem Has.x98 {j:Nat} {E:Env} (H:Has j E) (h:(rch j).contains 98 = true:=by rfl):E.ext 98 = some extCl:=H.ex 98 _ (by simpa using h) rfl
theorem Has.x104 {j:Nat} {E:Env} (H:Has j E) (h:(rch j).contains 104 = true:=by rfl):E.ext 104 = some extFI:=H.ex 104 _ (by simpa using h) rfl
theorem Has.x202 {j:Nat} {E:Env} (H:Has j E) (h:(rch j).contains 202 = true:=by rfl):E.ext 202 = some extIF:=H.ex 202 _ (by simpa using h) rfl
theorem Has.v0 {j:Nat} {E:Env} (H:Has j E) (h:(grch j).contains 0 = true:=by rfl):E.glob 0 = globAll 0:=by cases hq:globAll 0 with | none=>(cases hq) | some c=>exact H.gl 0 c (by simpa using h) hq
theorem Has.v1 {j:Nat} {E:Env} (H:Has j E) (h:(grch j).contains 1 = true:=by rfl):E.glob 1 = globAll 1:=by cases hq:globAll 1 with | none=>(cases hq) | some c=>exact H.gl 1 c (by simpa using h) hq
theorem Has.v2 {j:Nat} {E:Env} (H:Has j E) (h:(grch j).contains 2 = true:=by rfl):E.glob 2 = globAll 2:=by cases hq:globAll 2 with | none=>(cases hq) | some c=>exact H.gl 2 c (by simpa using h) hq
theorem Has.v3 {j:Nat} {E:Env} (H:Has j E) (h:(grch j).contains 3 = true:=by rfl):E.glob 3 = globAll 3:=by cases hq:globAll 3 with | none=>(cases hq) | some c=>exact H.gl 3 c (by simpa using h) hq
theorem Has.v5 {j:Nat} {E:Env} (H:Has j E) (h:(grch j).contains 5 = true:=by rfl):E.glob 5 = globAll 5:=by cases hq:globAll 5 with | none=>(cases hq) | some c=>exact H.gl 5 c (by simpa using h) hq
theorem Has.v6 {j:Nat} {E:Env} (H:Has j E) (h:(grch j).contains 6 = true:=by rfl):E.glob 6 = globAll 6:=by cases hq:globAll 6 with | none=>(cases hq) | some c=>exact H.gl 6 c (by simpa using h) hq
theorem Has.v7 {j:Nat} {E:Env} (H:Has j E) (h:(grch j).contains 7 = true:=by rfl):E.glob 7 = globAll 7:=by cases hq:globAll 7 with | none=>(cases hq) | some c=>exact H.gl 7 c (by simpa using h) hq
end Go.Pv
