/- A part of the proof: functions of the program in the evaluator's code, and what they come to. Conditions: none; definitions and theorems that the statement's proof uses. -/
import Derived.Test.YtamopjeecnhfaaaGreatDoorSetwPvFns2
/- What functions reach; what is asked of an environment to run one. Conditions: none; definitions. -/
namespace Go.Pv
def fnAll:Nat→Option SFunc
 | 13=>some f13
 | 20=>some f20
 | 25=>some f25
 | 26=>some f26
 | 30=>some f30
 | 31=>some f31
 | 32=>some f32
 | 33=>some f33
 | 38=>some f38
 | 39=>some f39
 | 40=>some f40
 | 41=>some f41
 | 44=>some f44
 | 45=>some f45
 | 46=>some f46
 | 47=>some f47
 | 48=>some f48
 | 49=>some f49
 | 50=>some f50
 | 51=>some f51
 | 56=>some f56
 | 57=>some f57
 | 58=>some f58
 | 59=>some f59
 | 60=>some f60
 | 61=>some f61
 | 62=>some f62
 | 63=>some f63
 | 64=>some f64
 | 65=>some f65
 | 66=>some f66
 | 67=>some f67
 | 68=>some f68
 | 69=>some f69
 | 70=>some f70
 | 71=>some f71
 | 72=>some f72
 | 73=>some f73
 | 75=>some f75
 | 76=>some f76
 | 77=>some f77
 | 78=>some f78
 | 79=>some f79
 | 80=>some f80
 | 82=>some f82
 | 83=>some f83
 | 84=>some f84
 | 85=>some f85
 | 88=>some f88
 | 89=>some f89
 | 90=>some f90
 | 91=>some f91
 | 92=>some f92
 | 94=>some f94
 | 95=>some f95
 | 96=>some f96
 | 97=>some f97
 | 99=>some f99
 | 100=>some f100
 | 101=>some f101
 | 102=>some f102
 | 103=>some f103
 | 105=>some f105
 | 163=>some f163
 | 168=>some f168
 | 170=>some f170
 | 175=>some f175
 | 178=>some f178
 | 179=>some f179
 | 180=>some f180
 | 182=>some f182
 | 183=>some f183
 | 188=>some f188
 | 190=>some f190
 | 191=>some f191
 | 192=>some f192
 | 200=>some f200
 | 201=>some f201
 | 206=>some f206
 | 271=>some f271
 | 276=>some f276
 | 278=>some f278
 | 283=>some f283
 | 284=>some f284
 | 285=>some f285
 | 286=>some f286
 | 287=>some f287
 | 288=>some f288
 | 290=>some f290
 | 291=>some f291
 | 292=>some f292
 | 293=>some f293
 | 294=>some f294
 | 295=>some f295
 | 296=>some f296
 | 297=>some f297
 | 298=>some f298
 | 299=>some f299
 | 300=>some f300
 | 301=>some f301
 | 302=>some f302
 | 303=>some f303
 | 304=>some f304
 | 305=>some f305
 | 306=>some f306
 | 307=>some f307
 | 308=>some f308
 | 309=>some f309
 | 310=>some f310
 | 311=>some f311
 | 312=>some f312
 | 313=>some f313
 | 314=>some f314
 | 315=>some f315
 | 316=>some f316
 | 317=>some f317
 | 318=>some f318
 | 319=>some f319
 | 320=>some f320
 | 321=>some f321
 | 322=>some f322
 | 323=>some f323
 | 324=>some f324
 | 325=>some f325
 | 326=>some f326
 | 327=>some f327
 | 328=>some f328
 | 329=>some f329
 | 330=>some f330
 | 331=>some f331
 | 332=>some f332
 | 333=>some f333
 | 334=>some f334
 | 335=>some f335
 | 336=>some f336
 | 337=>some f337
 | 338=>some f338
 | 339=>some f339
 | 340=>some f340
 | 341=>some f341
 | 342=>some f342
 | 343=>some f343
 | 344=>some f344
 | 345=>some f345
 | 346=>some f346
 | 347=>some f347
 | 348=>some f348
 | 349=>some f349
 | 350=>some f350
 | 351=>some f351
 | 352=>some f352
 | 353=>some f353
 | 354=>some f354
 | 355=>some f355
 | 356=>some f356
 | 357=>some f357
 | _=>none
def rch:Nat→List Nat
 | 13=>[13,25,26,38,39,40,41,56,57,58,59,60,61,75]
 | 20=>[13,20,25,26,30,31,32,33,38,39,40,41,44,45,46,47,48,49,50,56,57,58,59,60,61,62,63,64,65,66,67,68,69,70,75,76,77,78,79,80,81,82,83,84,88,89,90,91,92,94,95,96,97,98,99,100,101,102,103,104,105]
 | 25=>[25,38,56,57,58]
 | 26=>[26,39,40,41,59,60,61,75]
 | 30=>[30,32,44,45,46,47,62,63,64,65,66,67,76,77,78,79,80,81,88,89,90,91,92,96,97,98,99,100,102,104]
 | 31=>[31]
 | 32=>[32,44,46,47,62,63,64,65,66,67,76,77,78,79,80,81,88,89,90,91,92,96,97,98,99,100,102,104]
 | 33=>[13,25,26,33,38,39,40,41,44,48,49,50,56,57,58,59,60,61,68,69,70,75,82,83,84,94,95,101,103,105]
 | 38=>[38,56,57,58]
 | 39=>[39,59,60]
 | 40=>[39,40,41,59,60,61,75]
 | 41=>[41,61,75]
 | 44=>[44]
 | 45=>[45]
 | 46=>[44,46,47,62,63,64,65,66,67,76,77,78,79,80,81,88,89,90,91,92,96,97,98,99,100,102,104]
 | 47=>[44,47,62,63,64,65,66,67,76,77,78,79,80,81,88,89,90,91,92,96,97,98,99,100,102,104]
 | 48=>[48]
 | 49=>[13,25,26,38,39,40,41,49,50,56,57,58,59,60,61,68,69,70,75,82,83,84,94,95,101,103,105]
 | 50=>[50,70]
 | 51=>[51,71,72,73,85]
 | 56=>[56]
 | 57=>[57]
 | 58=>[58]
 | 59=>[59]
 | 60=>[60]
 | 61=>[61,75]
 | 62=>[44,62,66,81]
 | 63=>[44,62,63,66,76,81]
 | 64=>[44,64,77,78]
 | 65=>[65,79,80,88,89,90,91,92,96,97,98,99,100,102,104]
 | 66=>[66,81]
 | 67=>[44,67]
 | 68=>[68,82,83]
 | 69=>[13,25,26,38,39,40,41,49,50,56,57,58,59,60,61,68,69,70,75,82,83,84,94,95,101,103,105]
 | 70=>[70]
 | 71=>[71,85]
 | 72=>[72,85]
 | 73=>[73]
 | 75=>[75]
 | 76=>[44,62,66,76,81]
 | 77=>[77]
 | 78=>[78]
 | 79=>[79,88,96,97]
 | 80=>[80,89,90,91,92,98,99,100,102,104]
 | 82=>[82]
 | 83=>[83]
 | 84=>[13,25,26,38,39,40,41,49,50,56,57,58,59,60,61,68,69,70,75,82,83,84,94,95,101,103,105]
 | 85=>[85]
 | 88=>[88,96,97]
 | 89=>[89,98]
 | 90=>[90,98]
 | 91=>[91,98,99,100,102,104]
 | 92=>[92,98,99,100,102,104]
 | 94=>[13,25,26,38,39,40,41,50,56,57,58,59,60,61,68,70,75,82,83,94,95,101,103,105]
 | 95=>[50,70,82,83,95]
 | 96=>[96]
 | 97=>[96,97]
 | 99=>[99]
 | 100=>[100,102,104]
 | 101=>[50,68,70,82,83,95,101,103,105]
 | 102=>[102,104]
 | 103=>[103,105]
 | 105=>[105]
 | 163=>[51,71,72,73,85,163,175,190,191,192]
 | 168=>[38,56,57,58,168,178,179,180,200,201,202]
 | 170=>[51,71,72,73,85,170,182,183]
 | 175=>[51,71,72,73,85,175,190,191,192]
 | 178=>[38,56,57,58,178,179,180,200,201,202]
 | 179=>[179]
 | 180=>[38,56,57,58,180,200,201,202]
 | 182=>[51,71,72,73,85,182]
 | 183=>[183]
 | 188=>[51,71,72,73,85,170,182,183,188,206]
 | 190=>[190]
 | 191=>[51,71,72,73,85,190,191]
 | 192=>[190,192]
 | 200=>[38,56,57,58,200]
 | 201=>[201]
 | 206=>[183,206]
 | 271=>[13,20,25,26,30,31,32,33,38,39,40,41,44,45,46,47,48,49,50,51,56,57,58,59,60,61,62,63,64,65,66,67,68,69,70,71,72,73,75,76,77,78,79,80,81,82,83,84,85,88,89,90,91,92,94,95,96,97,98,99,100,101,102,103,104,105,163,168,175,178,179,180,190,191,192,200,201,202,271,278,283,284,285,286,287,288,292,293,294,295,296,297,298,299,300,301,302,303,304,308,309,310,311,312,313,314,315,316,317,318,319,320,321,322,323,324,325,326,327,328,329,330,331,334,335,336,337,338,339,340,341,342,343,344,345,346,347,348,349,350,351,352,353,354,355,356,357]
 | 276=>[13,20,25,26,30,31,32,33,38,39,40,41,44,45,46,47,48,49,50,51,56,57,58,59,60,61,62,63,64,65,66,67,68,69,70,71,72,73,75,76,77,78,79,80,81,82,83,84,85,88,89,90,91,92,94,95,96,97,98,99,100,101,102,103,104,105,163,168,175,178,179,180,190,191,192,200,201,202,276,278,283,287,288,292,293,294,295,302,303,304,308,309,310,311,312,313,314,315,316,325,326,327,328,329,330,331,334,335,336,337,338,339,340,341,345,346,347,348,349,350,351,353,354,355,356,357]
 | 278=>[13,20,25,26,30,31,32,33,38,39,40,41,44,45,46,47,48,49,50,56,57,58,59,60,61,62,63,64,65,66,67,68,69,70,75,76,77,78,79,80,81,82,83,84,88,89,90,91,92,94,95,96,97,98,99,100,101,102,103,104,105,168,178,179,180,200,201,202,278,283,287,288,292,293,294,295,302,303,304,308,309,310,311,312,313,314,315,316,325,326,327,328,329,330,331,334,335,336,337,338,339,340,341,345,346,347,348,349,350,351,353,354,355,356,357]
 | 283=>[38,56,57,58,168,178,179,180,200,201,202,283,287,288,292,293,294,295,302,303,304,308,309,310,311,312,313,314,315,316,325,326,327,328,329,330,331,334,335,336,337,338,339,340,341,345,346,347,348,349,350,351,353,354,355,356,357]
 | 284=>[284,296,297,298,299,317,318,319,320,321,323,324,342,343,344,352]
 | 285=>[285,296,297,299,300,317,318,319,320,321,322,323,324,342,343,344,352]
 | 286=>[286,297,301,320,323,324,342,343,344,352]
 | 287=>[38,56,57,58,168,178,179,180,200,201,202,287,288,295,302,303,304,308,309,314,315,316,325,326,327,328,329,330,331,334,335,336,337,338,339,341,345,346,347,348,349,350,351,353,354,355,356,357]
 | 288=>[38,56,57,58,288,295,302,303,304,308,309,314,315,316,325,326,327,328,329,330,331,334,335,336,337,338,339,341,345,346,347,348,349,350,351,353,354,355,356,357]
 | 290=>[51,71,72,73,85,284,290,296,297,298,299,301,306,307,317,318,319,320,321,322,323,324,332,333,342,343,344,352]
 | 291=>[51,71,72,73,85,182,284,290,291,296,297,298,299,301,306,307,317,318,319,320,321,322,323,324,332,333,342,343,344,352]
 | 292=>[292]
 | 293=>[293,308,327,334,335,345,347,349,350,353,354,355,356]
 | 294=>[294,309,310,311,312,313,325,326,327,334,335,336,337,338,339,340,345,346,347,349,350,351,353,354,355,356,357]
 | 295=>[295,302,309,314,315,316,325,326,327,334,335,336,338,339,341,345,346,347,349,350,351,353,354,355,356,357]
 | 296=>[296,317,318,321,323,342,352]
 | 297=>[297]
 | 298=>[298,318,319,320,323,324,342,343,344,352]
 | 299=>[299,321]
 | 300=>[300,318,319,320,322,323,324,342,343,344,352]
 | 301=>[301,320,323,324,342,343,344,352]
 | 302=>[302,325,326,327,334,335,345,346,347,349,350,353,354,355,356]
 | 303=>[303,309,325,327,328,329,330,331,334,335,336,337,338,339,345,346,347,348,349,350,351,353,354,355,356,357]
 | 304=>[295,302,303,304,308,309,314,315,316,325,326,327,328,329,330,331,334,335,336,337,338,339,341,345,346,347,348,349,350,351,353,354,355,356,357]
 | 305=>[51,71,72,73,85,170,182,183,188,206,284,285,286,290,291,296,297,298,299,300,301,305,306,307,317,318,319,320,321,322,323,324,332,333,342,343,344,352]
 | 306=>[284,296,297,298,299,301,306,307,317,318,319,320,321,322,323,324,332,333,342,343,344,352]
 | 307=>[296,297,307,317,318,320,321,322,323,324,332,333,342,343,344,352]
 | 308=>[308,327,334,335,345,347,349,350,353,354,355,356]
 | 309=>[309,325,334,336,339,345,351,353,354,355,357]
 | 310=>[310,311,325,326,327,334,335,337,345,346,347,349,350,353,354,355,356]
 | 311=>[311,325,326,327,334,335,337,345,346,347,349,350,353,354,355,356]
 | 312=>[312,313,338,339,340,351,357]
 | 313=>[313,338,339,340,351,357]
 | 314=>[302,314,325,326,327,334,335,345,346,347,349,350,353,354,355,356]
 | 315=>[315,316,338,339,341,351,357]
 | 316=>[316,338,339,341,351,357]
 | 317=>[317,318,321,323,342,352]
 | 318=>[318,323,342,352]
 | 319=>[319,323,324,342,343,352]
 | 320=>[320,323,342,344,352]
 | 321=>[321]
 | 322=>[322]
 | 323=>[323]
 | 324=>[323,324,343,352]
 | 325=>[325,334,345,353,354,355]
 | 326=>[326,334,335,345,346,349,350,353,354,355,356]
 | 327=>[327,334,345,347,353,354,355]
 | 328=>[325,327,328,329,334,335,337,345,346,347,349,350,353,354,355,356]
 | 329=>[325,327,329,334,335,337,345,346,347,349,350,353,354,355,356]
 | 330=>[330,331,338,339,348,351,357]
 | 331=>[331,338,339,348,351,357]
 | 332=>[318,320,322,323,324,332,342,343,344,352]
 | 333=>[321,333]
 | 334=>[334]
 | 335=>[334,335,349,350,353,355,356]
 | 336=>[325,334,336,339,345,351,353,354,355,357]
 | 337=>[337]
 | 338=>[338,339,351,357]
 | 339=>[339,351,357]
 | 340=>[340]
 | 341=>[341]
 | 342=>[323,342,352]
 | 343=>[323,343,352]
 | 344=>[323,344]
 | 345=>[334,345,353,354,355]
 | 346=>[334,345,346,350,353,354,355,356]
 | 347=>[334,347]
 | 348=>[348]
 | 349=>[334,349,350,353,355,356]
 | 350=>[334,350,353,355,356]
 | 351=>[351,357]
 | 352=>[352]
 | 353=>[334,353]
 | 354=>[354]
 | 355=>[355]
 | 356=>[356]
 | 357=>[357]
 | _=>[]
def grch:Nat→List Nat
 | 13=>[0]
 | 20=>[0,1,2,3]
 | 25=>[0]
 | 26=>[]
 | 30=>[1,2,3]
 | 31=>[]
 | 32=>[1,2,3]
 | 33=>[0,1]
 | 38=>[0]
 | 39=>[]
 | 40=>[]
 | 41=>[]
 | 44=>[1]
 | 45=>[]
 | 46=>[1,2,3]
 | 47=>[1,2,3]
 | 48=>[]
 | 49=>[0]
 | 50=>[]
 | 51=>[]
 | 56=>[]
 | 57=>[]
 | 58=>[]
 | 59=>[]
 | 60=>[]
 | 61=>[]
 | 62=>[1]
 | 63=>[1]
 | 64=>[1]
 | 65=>[2,3]
 | 66=>[]
 | 67=>[1]
 | 68=>[]
 | 69=>[0]
 | 70=>[]
 | 71=>[]
 | 72=>[]
 | 73=>[]
 | 75=>[]
 | 76=>[1]
 | 77=>[]
 | 78=>[]
 | 79=>[]
 | 80=>[2,3]
 | 82=>[]
 | 83=>[]
 | 84=>[0]
 | 85=>[]
 | 88=>[]
 | 89=>[2]
 | 90=>[3]
 | 91=>[]
 | 92=>[]
 | 94=>[0]
 | 95=>[]
 | 96=>[]
 | 97=>[]
 | 99=>[]
 | 100=>[]
 | 101=>[]
 | 102=>[]
 | 103=>[]
 | 105=>[]
 | 163=>[]
 | 168=>[0]
 | 170=>[]
 | 175=>[]
 | 178=>[0]
 | 179=>[]
 | 180=>[0]
 | 182=>[]
 | 183=>[]
 | 188=>[]
 | 190=>[]
 | 191=>[]
 | 192=>[]
 | 200=>[0]
 | 201=>[]
 | 206=>[]
 | 271=>[0,1,2,3,8,9,10]
 | 276=>[0,1,2,3,8,9,10]
 | 278=>[0,1,2,3,8,9,10]
 | 283=>[0,8,9,10]
 | 284=>[]
 | 285=>[]
 | 286=>[]
 | 287=>[0,8,9,10]
 | 288=>[0,8,9,10]
 | 290=>[]
 | 291=>[]
 | 292=>[]
 | 293=>[9]
 | 294=>[9]
 | 295=>[9]
 | 296=>[]
 | 297=>[]
 | 298=>[]
 | 299=>[]
 | 300=>[]
 | 301=>[]
 | 302=>[9]
 | 303=>[9,10]
 | 304=>[8,9,10]
 | 305=>[]
 | 306=>[]
 | 307=>[]
 | 308=>[9]
 | 309=>[]
 | 310=>[9]
 | 311=>[9]
 | 312=>[]
 | 313=>[]
 | 314=>[9]
 | 315=>[]
 | 316=>[]
 | 317=>[]
 | 318=>[]
 | 319=>[]
 | 320=>[]
 | 321=>[]
 | 322=>[]
 | 323=>[]
 | 324=>[]
 | 325=>[]
 | 326=>[9]
 | 327=>[9]
 | 328=>[9,10]
 | 329=>[9,10]
 | 330=>[]
 | 331=>[]
 | 332=>[]
 | 333=>[]
 | 334=>[]
 | 335=>[9]
 | 336=>[]
 | 337=>[]
 | 338=>[]
 | 339=>[]
 | 340=>[]
 | 341=>[]
 | 342=>[]
 | 343=>[]
 | 344=>[]
 | 345=>[]
 | 346=>[]
 | 347=>[]
 | 348=>[]
 | 349=>[]
 | 350=>[]
 | 351=>[]
 | 352=>[]
 | 353=>[]
 | 354=>[]
 | 355=>[]
 | 356=>[]
 | 357=>[]
 | _=>[]
structure Has (j:Nat) (E:Env):Prop where
 fn:∀ k f,k ∈ rch j→fnAll k = some f→E.code k = some f
 gl:∀ g cs,g ∈ grch j→globAll g = some cs→E.glob g = some cs
 ex:∀ k g,k ∈ rch j→extAll k = some g→E.ext k = some g
def subL:List Nat→List Nat→Bool
 | [],_=>true
 | _ :: _,[]=>false
 | a :: as,b :: bs=>if a = b then subL as bs else if b < a then subL (a :: as) bs else false
theorem subL_mem:∀ {as bs:List Nat},subL as bs = true→∀ x ∈ as,x ∈ bs
 | [],_,_,x,hx=>by simp at hx
 | a :: as,[],h,_,_=>by simp [subL] at h
 | a :: as,b :: bs,h,x,hx=>by
  simp only [subL] at h
  split at h
  ·rename_i hab
   subst hab
   rcases List.mem_cons.1 hx with rfl | hx
   ·exact List.mem_cons_self
   ·exact List.mem_cons_of_mem _ (subL_mem h x hx)
  ·split at h
   ·exact List.mem_cons_of_mem _ (subL_mem h x hx)
   ·cases h
theorem Has.to {j:Nat} {E:Env} (H:Has j E) (k:Nat) (h:(subL (rch k) (rch j) && subL (grch k) (grch j)) = true:=by rfl):Has k E:=by
 rw [Bool.and_eq_true] at h
 exact ⟨fun i f hi hf=>H.fn i f (subL_mem h.1 i hi) hf,fun g cs hg hc=>H.gl g cs (subL_mem h.2 g hg) hc,fun i g hi hf=>H.ex i g (subL_mem h.1 i hi) hf⟩
theorem Has.fc {j k:Nat} {E:Env} {f:SFunc} (H:Has j E) (h:(rch j).contains k = true) (hf:fnAll k = some f):E.code k = some f:=H.fn k f (by simpa using h) hf
abbrev Rc (j k:Nat):Prop:=(rch j).contains k = true
variable {j:Nat} {E:Env}
theorem Has.c13 (H:Has j E) (h:Rc j 13:=by rfl):E.code 13 = some f13:=H.fc h rfl
theorem Has.c20 (H:Has j E) (h:Rc j 20:=by rfl):E.code 20 = some f20:=H.fc h rfl
theorem Has.c25 (H:Has j E) (h:Rc j 25:=by rfl):E.code 25 = some f25:=H.fc h rfl
theorem Has.c26 (H:Has j E) (h:Rc j 26:=by rfl):E.code 26 = some f26:=H.fc h rfl
theorem Has.c30 (H:Has j E) (h:Rc j 30:=by rfl):E.code 30 = some f30:=H.fc h rfl
theorem Has.c31 (H:Has j E) (h:Rc j 31:=by rfl):E.code 31 = some f31:=H.fc h rfl
theorem Has.c32 (H:Has j E) (h:Rc j 32:=by rfl):E.code 32 = some f32:=H.fc h rfl
theorem Has.c33 (H:Has j E) (h:Rc j 33:=by rfl):E.code 33 = some f33:=H.fc h rfl
theorem Has.c38 (H:Has j E) (h:Rc j 38:=by rfl):E.code 38 = some f38:=H.fc h rfl
theorem Has.c39 (H:Has j E) (h:Rc j 39:=by rfl):E.code 39 = some f39:=H.fc h rfl
theorem Has.c40 (H:Has j E) (h:Rc j 40:=by rfl):E.code 40 = some f40:=H.fc h rfl
theorem Has.c41 (H:Has j E) (h:Rc j 41:=by rfl):E.code 41 = some f41:=H.fc h rfl
theorem Has.c44 (H:Has j E) (h:Rc j 44:=by rfl):E.code 44 = some f44:=H.fc h rfl
theorem Has.c45 (H:Has j E) (h:Rc j 45:=by rfl):E.code 45 = some f45:=H.fc h rfl
theorem Has.c46 (H:Has j E) (h:Rc j 46:=by rfl):E.code 46 = some f46:=H.fc h rfl
theorem Has.c47 (H:Has j E) (h:Rc j 47:=by rfl):E.code 47 = some f47:=H.fc h rfl
theorem Has.c48 (H:Has j E) (h:Rc j 48:=by rfl):E.code 48 = some f48:=H.fc h rfl
theorem Has.c49 (H:Has j E) (h:Rc j 49:=by rfl):E.code 49 = some f49:=H.fc h rfl
theorem Has.c50 (H:Has j E) (h:Rc j 50:=by rfl):E.code 50 = some f50:=H.fc h rfl
theorem Has.c51 (H:Has j E) (h:Rc j 51:=by rfl):E.code 51 = some f51:=H.fc h rfl
theorem Has.c56 (H:Has j E) (h:Rc j 56:=by rfl):E.code 56 = some f56:=H.fc h rfl
theorem Has.c57 (H:Has j E) (h:Rc j 57:=by rfl):E.code 57 = some f57:=H.fc h rfl
theorem Has.c58 (H:Has j E) (h:Rc j 58:=by rfl):E.code 58 = some f58:=H.fc h rfl
theorem Has.c59 (H:Has j E) (h:Rc j 59:=by rfl):E.code 59 = some f59:=H.fc h rfl
theorem Has.c60 (H:Has j E) (h:Rc j 60:=by rfl):E.code 60 = some f60:=H.fc h rfl
theorem Has.c61 (H:Has j E) (h:Rc j 61:=by rfl):E.code 61 = some f61:=H.fc h rfl
theorem Has.c62 (H:Has j E) (h:Rc j 62:=by rfl):E.code 62 = some f62:=H.fc h rfl
theorem Has.c63 (H:Has j E) (h:Rc j 63:=by rfl):E.code 63 = some f63:=H.fc h rfl
theorem Has.c64 (H:Has j E) (h:Rc j 64:=by rfl):E.code 64 = some f64:=H.fc h rfl
theorem Has.c65 (H:Has j E) (h:Rc j 65:=by rfl):E.code 65 = some f65:=H.fc h rfl
theorem Has.c66 (H:Has j E) (h:Rc j 66:=by rfl):E.code 66 = some f66:=H.fc h rfl
theorem Has.c67 (H:Has j E) (h:Rc j 67:=by rfl):E.code 67 = some f67:=H.fc h rfl
theorem Has.c68 (H:Has j E) (h:Rc j 68:=by rfl):E.code 68 = some f68:=H.fc h rfl
theorem Has.c69 (H:Has j E) (h:Rc j 69:=by rfl):E.code 69 = some f69:=H.fc h rfl
theorem Has.c70 (H:Has j E) (h:Rc j 70:=by rfl):E.code 70 = some f70:=H.fc h rfl
theorem Has.c71 (H:Has j E) (h:Rc j 71:=by rfl):E.code 71 = some f71:=H.fc h rfl
theorem Has.c72 (H:Has j E) (h:Rc j 72:=by rfl):E.code 72 = some f72:=H.fc h rfl
theorem Has.c73 (H:Has j E) (h:Rc j 73:=by rfl):E.code 73 = some f73:=H.fc h rfl
theorem Has.c75 (H:Has j E) (h:Rc j 75:=by rfl):E.code 75 = some f75:=H.fc h rfl
theorem Has.c76 (H:Has j E) (h:Rc j 76:=by rfl):E.code 76 = some f76:=H.fc h rfl
theorem Has.c77 (H:Has j E) (h:Rc j 77:=by rfl):E.code 77 = some f77:=H.fc h rfl
theorem Has.c78 (H:Has j E) (h:Rc j 78:=by rfl):E.code 78 = some f78:=H.fc h rfl
theorem Has.c79 (H:Has j E) (h:Rc j 79:=by rfl):E.code 79 = some f79:=H.fc h rfl
theorem Has.c80 (H:Has j E) (h:Rc j 80:=by rfl):E.code 80 = some f80:=H.fc h rfl
theorem Has.c82 (H:Has j E) (h:Rc j 82:=by rfl):E.code 82 = some f82:=H.fc h rfl
theorem Has.c83 (H:Has j E) (h:Rc j 83:=by rfl):E.code 83 = some f83:=H.fc h rfl
theorem Has.c84 (H:Has j E) (h:Rc j 84:=by rfl):E.code 84 = some f84:=H.fc h rfl
theorem Has.c85 (H:Has j E) (h:Rc j 85:=by rfl):E.code 85 = some f85:=H.fc h rfl
theorem Has.c88 (H:Has j E) (h:Rc j 88:=by rfl):E.code 88 = some f88:=H.fc h rfl
theorem Has.c89 (H:Has j E) (h:Rc j 89:=by rfl):E.code 89 = some f89:=H.fc h rfl
theorem Has.c90 (H:Has j E) (h:Rc j 90:=by rfl):E.code 90 = some f90:=H.fc h rfl
theorem Has.c91 (H:Has j E) (h:Rc j 91:=by rfl):E.code 91 = some f91:=H.fc h rfl
theorem Has.c92 (H:Has j E) (h:Rc j 92:=by rfl):E.code 92 = some f92:=H.fc h rfl
theorem Has.c94 (H:Has j E) (h:Rc j 94:=by rfl):E.code 94 = some f94:=H.fc h rfl
theorem Has.c95 (H:Has j E) (h:Rc j 95:=by rfl):E.code 95 = some f95:=H.fc h rfl
theorem Has.c96 (H:Has j E) (h:Rc j 96:=by rfl):E.code 96 = some f96:=H.fc h rfl
theorem Has.c97 (H:Has j E) (h:Rc j 97:=by rfl):E.code 97 = some f97:=H.fc h rfl
theorem Has.c99 (H:Has j E) (h:Rc j 99:=by rfl):E.code 99 = some f99:=H.fc h rfl
theorem Has.c100 (H:Has j E) (h:Rc j 100:=by rfl):E.code 100 = some f100:=H.fc h rfl
theorem Has.c101 (H:Has j E) (h:Rc j 101:=by rfl):E.code 101 = some f101:=H.fc h rfl
theorem Has.c102 (H:Has j E) (h:Rc j 102:=by rfl):E.code 102 = some f102:=H.fc h rfl
theorem Has.c103 (H:Has j E) (h:Rc j 103:=by rfl):E.code 103 = some f103:=H.fc h rfl
theorem Has.c105 (H:Has j E) (h:Rc j 105:=by rfl):E.code 105 = some f105:=H.fc h rfl
theorem Has.c163 (H:Has j E) (h:Rc j 163:=by rfl):E.code 163 = some f163:=H.fc h rfl
theorem Has.c168 (H:Has j E) (h:Rc j 168:=by rfl):E.code 168 = some f168:=H.fc h rfl
theorem Has.c170 (H:Has j E) (h:Rc j 170:=by rfl):E.code 170 = some f170:=H.fc h rfl
theorem Has.c175 (H:Has j E) (h:Rc j 175:=by rfl):E.code 175 = some f175:=H.fc h rfl
theorem Has.c178 (H:Has j E) (h:Rc j 178:=by rfl):E.code 178 = some f178:=H.fc h rfl
theorem Has.c179 (H:Has j E) (h:Rc j 179:=by rfl):E.code 179 = some f179:=H.fc h rfl
theorem Has.c180 (H:Has j E) (h:Rc j 180:=by rfl):E.code 180 = some f180:=H.fc h rfl
theorem Has.c182 (H:Has j E) (h:Rc j 182:=by rfl):E.code 182 = some f182:=H.fc h rfl
theorem Has.c183 (H:Has j E) (h:Rc j 183:=by rfl):E.code 183 = some f183:=H.fc h rfl
theorem Has.c188 (H:Has j E) (h:Rc j 188:=by rfl):E.code 188 = some f188:=H.fc h rfl
theorem Has.c190 (H:Has j E) (h:Rc j 190:=by rfl):E.code 190 = some f190:=H.fc h rfl
theorem Has.c191 (H:Has j E) (h:Rc j 191:=by rfl):E.code 191 = some f191:=H.fc h rfl
theorem Has.c192 (H:Has j E) (h:Rc j 192:=by rfl):E.code 192 = some f192:=H.fc h rfl
theorem Has.c200 (H:Has j E) (h:Rc j 200:=by rfl):E.code 200 = some f200:=H.fc h rfl
theorem Has.c201 (H:Has j E) (h:Rc j 201:=by rfl):E.code 201 = some f201:=H.fc h rfl
theorem Has.c206 (H:Has j E) (h:Rc j 206:=by rfl):E.code 206 = some f206:=H.fc h rfl
theorem Has.c271 (H:Has j E) (h:Rc j 271:=by rfl):E.code 271 = some f271:=H.fc h rfl
theorem Has.c276 (H:Has j E) (h:Rc j 276:=by rfl):E.code 276 = some f276:=H.fc h rfl
theorem Has.c278 (H:Has j E) (h:Rc j 278:=by rfl):E.code 278 = some f278:=H.fc h rfl
theorem Has.c283 (H:Has j E) (h:Rc j 283:=by rfl):E.code 283 = some f283:=H.fc h rfl
theorem Has.c284 (H:Has j E) (h:Rc j 284:=by rfl):E.code 284 = some f284:=H.fc h rfl
theorem Has.c285 (H:Has j E) (h:Rc j 285:=by rfl):E.code 285 = some f285:=H.fc h rfl
theorem Has.c286 (H:Has j E) (h:Rc j 286:=by rfl):E.code 286 = some f286:=H.fc h rfl
theorem Has.c287 (H:Has j E) (h:Rc j 287:=by rfl):E.code 287 = some f287:=H.fc h rfl
theorem Has.c288 (H:Has j E) (h:Rc j 288:=by rfl):E.code 288 = some f288:=H.fc h rfl
theorem Has.c290 (H:Has j E) (h:Rc j 290:=by rfl):E.code 290 = some f290:=H.fc h rfl
theorem Has.c291 (H:Has j E) (h:Rc j 291:=by rfl):E.code 291 = some f291:=H.fc h rfl
theorem Has.c292 (H:Has j E) (h:Rc j 292:=by rfl):E.code 292 = some f292:=H.fc h rfl
theorem Has.c293 (H:Has j E) (h:Rc j 293:=by rfl):E.code 293 = some f293:=H.fc h rfl
theorem Has.c294 (H:Has j E) (h:Rc j 294:=by rfl):E.code 294 = some f294:=H.fc h rfl
theorem Has.c295 (H:Has j E) (h:Rc j 295:=by rfl):E.code 295 = some f295:=H.fc h rfl
theorem Has.c296 (H:Has j E) (h:Rc j 296:=by rfl):E.code 296 = some f296:=H.fc h rfl
theorem Has.c297 (H:Has j E) (h:Rc j 297:=by rfl):E.code 297 = some f297:=H.fc h rfl
theorem Has.c298 (H:Has j E) (h:Rc j 298:=by rfl):E.code 298 = some f298:=H.fc h rfl
theorem Has.c299 (H:Has j E) (h:Rc j 299:=by rfl):E.code 299 = some f299:=H.fc h rfl
theorem Has.c300 (H:Has j E) (h:Rc j 300:=by rfl):E.code 300 = some f300:=H.fc h rfl
theorem Has.c301 (H:Has j E) (h:Rc j 301:=by rfl):E.code 301 = some f301:=H.fc h rfl
theorem Has.c302 (H:Has j E) (h:Rc j 302:=by rfl):E.code 302 = some f302:=H.fc h rfl
theorem Has.c303 (H:Has j E) (h:Rc j 303:=by rfl):E.code 303 = some f303:=H.fc h rfl
theorem Has.c304 (H:Has j E) (h:Rc j 304:=by rfl):E.code 304 = some f304:=H.fc h rfl
theorem Has.c305 (H:Has j E) (h:Rc j 305:=by rfl):E.code 305 = some f305:=H.fc h rfl
theorem Has.c306 (H:Has j E) (h:Rc j 306:=by rfl):E.code 306 = some f306:=H.fc h rfl
theorem Has.c307 (H:Has j E) (h:Rc j 307:=by rfl):E.code 307 = some f307:=H.fc h rfl
theorem Has.c308 (H:Has j E) (h:Rc j 308:=by rfl):E.code 308 = some f308:=H.fc h rfl
theorem Has.c309 (H:Has j E) (h:Rc j 309:=by rfl):E.code 309 = some f309:=H.fc h rfl
theorem Has.c310 (H:Has j E) (h:Rc j 310:=by rfl):E.code 310 = some f310:=H.fc h rfl
theorem Has.c311 (H:Has j E) (h:Rc j 311:=by rfl):E.code 311 = some f311:=H.fc h rfl
theorem Has.c312 (H:Has j E) (h:Rc j 312:=by rfl):E.code 312 = some f312:=H.fc h rfl
theorem Has.c313 (H:Has j E) (h:Rc j 313:=by rfl):E.code 313 = some f313:=H.fc h rfl
theorem Has.c314 (H:Has j E) (h:Rc j 314:=by rfl):E.code 314 = some f314:=H.fc h rfl
theorem Has.c315 (H:Has j E) (h:Rc j 315:=by rfl):E.code 315 = some f315:=H.fc h rfl
theorem Has.c316 (H:Has j E) (h:Rc j 316:=by rfl):E.code 316 = some f316:=H.fc h rfl
theorem Has.c317 (H:Has j E) (h:Rc j 317:=by rfl):E.code 317 = some f317:=H.fc h rfl
theorem Has.c318 (H:Has j E) (h:Rc j 318:=by rfl):E.code 318 = some f318:=H.fc h rfl
theorem Has.c319 (H:Has j E) (h:Rc j 319:=by rfl):E.code 319 = some f319:=H.fc h rfl
theorem Has.c320 (H:Has j E) (h:Rc j 320:=by rfl):E.code 320 = some f320:=H.fc h rfl
theorem Has.c321 (H:Has j E) (h:Rc j 321:=by rfl):E.code 321 = some f321:=H.fc h rfl
theorem Has.c322 (H:Has j E) (h:Rc j 322:=by rfl):E.code 322 = some f322:=H.fc h rfl
theorem Has.c323 (H:Has j E) (h:Rc j 323:=by rfl):E.code 323 = some f323:=H.fc h rfl
theorem Has.c324 (H:Has j E) (h:Rc j 324:=by rfl):E.code 324 = some f324:=H.fc h rfl
theorem Has.c325 (H:Has j E) (h:Rc j 325:=by rfl):E.code 325 = some f325:=H.fc h rfl
theorem Has.c326 (H:Has j E) (h:Rc j 326:=by rfl):E.code 326 = some f326:=H.fc h rfl
theorem Has.c327 (H:Has j E) (h:Rc j 327:=by rfl):E.code 327 = some f327:=H.fc h rfl
theorem Has.c328 (H:Has j E) (h:Rc j 328:=by rfl):E.code 328 = some f328:=H.fc h rfl
theorem Has.c329 (H:Has j E) (h:Rc j 329:=by rfl):E.code 329 = some f329:=H.fc h rfl
theorem Has.c330 (H:Has j E) (h:Rc j 330:=by rfl):E.code 330 = some f330:=H.fc h rfl
theorem Has.c331 (H:Has j E) (h:Rc j 331:=by rfl):E.code 331 = some f331:=H.fc h rfl
theorem Has.c332 (H:Has j E) (h:Rc j 332:=by rfl):E.code 332 = some f332:=H.fc h rfl
theorem Has.c333 (H:Has j E) (h:Rc j 333:=by rfl):E.code 333 = some f333:=H.fc h rfl
theorem Has.c334 (H:Has j E) (h:Rc j 334:=by rfl):E.code 334 = some f334:=H.fc h rfl
theorem Has.c335 (H:Has j E) (h:Rc j 335:=by rfl):E.code 335 = some f335:=H.fc h rfl
theorem Has.c336 (H:Has j E) (h:Rc j 336:=by rfl):E.code 336 = some f336:=H.fc h rfl
theorem Has.c337 (H:Has j E) (h:Rc j 337:=by rfl):E.code 337 = some f337:=H.fc h rfl
theorem Has.c338 (H:Has j E) (h:Rc j 338:=by rfl):E.code 338 = some f338:=H.fc h rfl
theorem Has.c339 (H:Has j E) (h:Rc j 339:=by rfl):E.code 339 = some f339:=H.fc h rfl
theorem Has.c340 (H:Has j E) (h:Rc j 340:=by rfl):E.code 340 = some f340:=H.fc h rfl
theorem Has.c341 (H:Has j E) (h:Rc j 341:=by rfl):E.code 341 = some f341:=H.fc h rfl
theorem Has.c342 (H:Has j E) (h:Rc j 342:=by rfl):E.code 342 = some f342:=H.fc h rfl
theorem Has.c343 (H:Has j E) (h:Rc j 343:=by rfl):E.code 343 = some f343:=H.fc h rfl
theorem Has.c344 (H:Has j E) (h:Rc j 344:=by rfl):E.code 344 = some f344:=H.fc h rfl
theorem Has.c345 (H:Has j E) (h:Rc j 345:=by rfl):E.code 345 = some f345:=H.fc h rfl
theorem Has.c346 (H:Has j E) (h:Rc j 346:=by rfl):E.code 346 = some f346:=H.fc h rfl
theorem Has.c347 (H:Has j E) (h:Rc j 347:=by rfl):E.code 347 = some f347:=H.fc h rfl
theorem Has.c348 (H:Has j E) (h:Rc j 348:=by rfl):E.code 348 = some f348:=H.fc h rfl
theorem Has.c349 (H:Has j E) (h:Rc j 349:=by rfl):E.code 349 = some f349:=H.fc h rfl
theorem Has.c350 (H:Has j E) (h:Rc j 350:=by rfl):E.code 350 = some f350:=H.fc h rfl
theorem Has.c351 (H:Has j E) (h:Rc j 351:=by rfl):E.code 351 = some f351:=H.fc h rfl
theorem Has.c352 (H:Has j E) (h:Rc j 352:=by rfl):E.code 352 = some f352:=H.fc h rfl
theorem Has.c353 (H:Has j E) (h:Rc j 353:=by rfl):E.code 353 = some f353:=H.fc h rfl
theorem Has.c354 (H:Has j E) (h:Rc j 354:=by rfl):E.code 354 = some f354:=H.fc h rfl
theorem Has.c355 (H:Has j E) (h:Rc j 355:=by rfl):E.code 355 = some f355:=H.fc h rfl
theorem Has.c356 (H:Has j E) (h:Rc j 356:=by rfl):E.code 356 = some f356:=H.fc h rfl
theorem Has.c357 (H:Has j E) (h:Rc j 357:=by rfl):E.code 357 = some f357:=H.fc h rfl
theorem Has.x81 {j:Nat} {E:Env} (H:Has j E) (h:(rch j).contains 81 = true:=by rfl):E.ext 81 = some extIB:=H.ex 81 _ (by simpa using h) rfl
theorem Has.x98 {j:Nat} {E:Env} (H:Has j E) (h:(rch j).contains 98 = true:=by rfl):E.ext 98 = some extCl:=H.ex 98 _ (by simpa using h) rfl
theorem Has.x104 {j:Nat} {E:Env} (H:Has j E) (h:(rch j).contains 104 = true:=by rfl):E.ext 104 = some extFI:=H.ex 104 _ (by simpa using h) rfl
theorem Has.x202 {j:Nat} {E:Env} (H:Has j E) (h:(rch j).contains 202 = true:=by rfl):E.ext 202 = some extIF:=H.ex 202 _ (by simpa using h) rfl
theorem Has.v0 {j:Nat} {E:Env} (H:Has j E) (h:(grch j).contains 0 = true:=by rfl):E.glob 0 = globAll 0:=by cases hq:globAll 0 with | none=>(cases hq) | some c=>exact H.gl 0 c (by simpa using h) hq
theorem Has.v1 {j:Nat} {E:Env} (H:Has j E) (h:(grch j).contains 1 = true:=by rfl):E.glob 1 = globAll 1:=by cases hq:globAll 1 with | none=>(cases hq) | some c=>exact H.gl 1 c (by simpa using h) hq
theorem Has.v2 {j:Nat} {E:Env} (H:Has j E) (h:(grch j).contains 2 = true:=by rfl):E.glob 2 = globAll 2:=by cases hq:globAll 2 with | none=>(cases hq) | some c=>exact H.gl 2 c (by simpa using h) hq
theorem Has.v3 {j:Nat} {E:Env} (H:Has j E) (h:(grch j).contains 3 = true:=by rfl):E.glob 3 = globAll 3:=by cases hq:globAll 3 with | none=>(cases hq) | some c=>exact H.gl 3 c (by simpa using h) hq
theorem Has.v5 {j:Nat} {E:Env} (H:Has j E) (h:(grch j).contains 5 = true:=by rfl):E.glob 5 = globAll 5:=by cases hq:globAll 5 with | none=>(cases hq) | some c=>exact H.gl 5 c (by simpa using h) hq
theorem Has.v6 {j:Nat} {E:Env} (H:Has j E) (h:(grch j).contains 6 = true:=by rfl):E.glob 6 = globAll 6:=by cases hq:globAll 6 with | none=>(cases hq) | some c=>exact H.gl 6 c (by simpa using h) hq
theorem Has.v7 {j:Nat} {E:Env} (H:Has j E) (h:(grch j).contains 7 = true:=by rfl):E.glob 7 = globAll 7:=by cases hq:globAll 7 with | none=>(cases hq) | some c=>exact H.gl 7 c (by simpa using h) hq
theorem Has.v8 {j:Nat} {E:Env} (H:Has j E) (h:(grch j).contains 8 = true:=by rfl):E.glob 8 = globAll 8:=by cases hq:globAll 8 with | none=>(cases hq) | some c=>exact H.gl 8 c (by simpa using h) hq
theorem Has.v9 {j:Nat} {E:Env} (H:Has j E) (h:(grch j).contains 9 = true:=by rfl):E.glob 9 = globAll 9:=by cases hq:globAll 9 with | none=>(cases hq) | some c=>exact H.gl 9 c (by simpa using h) hq
theorem Has.v10 {j:Nat} {E:Env} (H:Has j E) (h:(grch j).contains 10 = true:=by rfl):E.glob 10 = globAll 10:=by cases hq:globAll 10 with | none=>(cases hq) | some c=>exact H.gl 10 c (by simpa using h) hq
end Go.Pv
