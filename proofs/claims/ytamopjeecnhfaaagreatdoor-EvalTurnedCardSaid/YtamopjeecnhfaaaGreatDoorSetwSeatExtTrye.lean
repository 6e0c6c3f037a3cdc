/- A part of the proof: functions of the program in the evaluator's code, and what they come to. Conditions: none; definitions and theorems that the statement's proof uses. -/
import Derived.Test.YtamopjeecnhfaaaGreatDoorSetwSeatTrye
import Derived.Test.YtamopjeecnhfaaaGreatDoorSetwPvLaid
import Derived.Test.YtamopjeecnhfaaaGreatDoorRows
import Derived.LaidMore
import Derived.OpenShut
import Derived.LaidLaws
import Derived.Shelf.Strings.Search1
import Derived.Shelf.Strconv.Clone
/- What is said of two functions of Go's library that the program calls. Conditions: none; theorems. -/
namespace Go.Proofs.YtamopjeecnhfaaaGreatDoor
open Go Go.Pv Go.Shelf Go.RowKit
theorem idx_lib (c:Nat) (hc:c ≤ 255):∀ s:List UInt8,Lib.indexByte s (((c:Int)).toNat.toUInt8) = idxByte s c
 | []=>rfl
 | x :: s=>by
  have ih:=idx_lib c hc s
  have hx:(x == ((c:Int)).toNat.toUInt8) = decide ((x.toNat:Int) = c):=by
   rw [Bool.eq_iff_iff,beq_iff_eq,decide_eq_true_eq]
   have h1:(((c:Int)).toNat.toUInt8).toNat = c:=by simp; omega
   rw [← UInt8.toNat_inj,h1]
   omega
  simp only [Lib.indexByte,idxByte,hx,ih,beq_iff_eq,decide_eq_true_eq]
def ren:Ren:={ f:=fun k=>if k = 217 then 135 else if k = 266 then 152 else if k = 316 then 159 else if k = 15 then 113 else if k = 20 then 139 else 1000000,t:=fun k=>if k = 21 then 21 else if k = 23 then 179 else  if k = 37 then 201 else if k = 127 then 233 else k,g:=fun k=>k }
theorem lays217:Lays.n217 Tryz.prog ren where
 mixed:=by kernel_rfl
 f217:=by kernel_rfl
 f266:=by kernel_rfl
 t3:=Tryz.underlying3
 a3:=run_isAgg_plain Tryz.underlying3 rfl
 z3:=Tryz.sizeOf3
 v3:=Tryz.zeroValue3
 t5:=Tryz.underlying5
 a5:=run_isAgg_plain Tryz.underlying5 rfl
 z5:=Tryz.sizeOf5
 v5:=Tryz.zeroValue5
 t9:=Tryz.underlying9
 a9:=run_isAgg_plain Tryz.underlying9 rfl
 z9:=Tryz.sizeOf9
 v9:=Tryz.zeroValue9
theorem lays316:LaysM.n316 Tryz.prog ren where
 mixed:=by kernel_rfl
 f316:=by kernel_rfl
 t0:=Tryz.underlying0
 a0:=run_isAgg_plain Tryz.underlying0 rfl
 z0:=Tryz.sizeOf0
 v0:=Tryz.zeroValue0
 t3:=Tryz.underlying3
 a3:=run_isAgg_plain Tryz.underlying3 rfl
 z3:=Tryz.sizeOf3
 v3:=Tryz.zeroValue3
 t4:=Tryz.underlying4
 a4:=run_isAgg_plain Tryz.underlying4 rfl
 z4:=Tryz.sizeOf4
 v4:=Tryz.zeroValue4
 t9:=Tryz.underlying9
 a9:=run_isAgg_plain Tryz.underlying9 rfl
 z9:=Tryz.sizeOf9
 v9:=Tryz.zeroValue9
 t37:=Tryz.underlying201
 a37:=run_isAgg_plain Tryz.underlying201 rfl
 z37:=Tryz.sizeOf201
 v37:=Tryz.zeroValue201
 t127:=Tryz.underlying233
 a127:=run_isAgg_plain Tryz.underlying233 rfl
 z127:=Tryz.sizeOf233
 v127:=Tryz.zeroValue233
 t5:=Tryz.underlying5
 a5:=run_isAgg_plain Tryz.underlying5 rfl
 z5:=Tryz.sizeOf5
 v5:=Tryz.zeroValue5
 i0:=by kernel_rfl
 i3:=by kernel_rfl
 i4:=by kernel_rfl
 i5:=by kernel_rfl
 i9:=by kernel_rfl
 i37:=by kernel_rfl
 i127:=by kernel_rfl
theorem ext81 {E:Env}:ExtOk tT E 81 extIB:=by
 intro vs v hg G w l _ hl
 unfold extIB at hg
 split at hg
 ·rename_i s c
  split at hg
  ·rename_i hc
   cases hg
   obtain ⟨n,rfl⟩:∃ n:Nat,c = n:=⟨c.toNat,by omega⟩
   simp only [RepL,RepV] at hl
   obtain ⟨_,_,rfl,rfl,_,_,rfl,rfl,rfl⟩:=hl
   have h:=Any.stringslite_IndexByte lays217 ⟨⟨s⟩⟩ n w
   refine ((callsIn_wide (n:=0)).2 h).mono fun e w' ⟨h1,h2⟩=>?_
   subst h2
   refine ⟨⟨Nat.le_refl _,fun _ _=>rfl,rfl,rfl,rfl⟩,_,h1,fun G' w'=>?_⟩
   simp only [RepV]
   rw [idx_lib n (by omega)]
  ·cases hg
 ·cases hg
theorem ext98 {E:Env}:ExtOk tT E 98 extCl:=by
 intro vs v hg G w l _ hl
 unfold extCl at hg
 split at hg
 ·rename_i s
  split at hg
  ·rename_i hs
   cases hg
   simp only [RepL,RepV] at hl
   obtain ⟨_,_,rfl,rfl,rfl⟩:=hl
   have h:=Any.stringslite_Clone lays316 ⟨⟨s⟩⟩ w (by show s.toArray.size ≤ _; simp; omega)
   refine ((callsIn_wide (n:=0)).2 h).mono fun e w' ⟨h1,h2⟩=>?_
   refine ⟨?_,_,h1,fun G' w'=>?_⟩
   ·exact ⟨h2.size,h2.block,h2.os,h2.tape,h2.output⟩
   ·simp only [RepV]
  ·cases hg
 ·cases hg
theorem laysIF:LaysGw.n15 Tryz.prog ren where
 mixed:=by kernel_rfl
 f15:=by kernel_rfl
 f20:=by kernel_rfl
 t0:=Tryz.underlying0
 a0:=run_isAgg_plain Tryz.underlying0 rfl
 z0:=Tryz.sizeOf0
 v0:=Tryz.zeroValue0
 i0:=by kernel_rfl
 t3:=Tryz.underlying3
 a3:=run_isAgg_plain Tryz.underlying3 rfl
 z3:=Tryz.sizeOf3
 v3:=Tryz.zeroValue3
 i3:=by kernel_rfl
 t4:=Tryz.underlying4
 a4:=run_isAgg_plain Tryz.underlying4 rfl
 z4:=Tryz.sizeOf4
 v4:=Tryz.zeroValue4
 i4:=by kernel_rfl
 t9:=Tryz.underlying9
 a9:=run_isAgg_plain Tryz.underlying9 rfl
 z9:=Tryz.sizeOf9
 v9:=Tryz.zeroValue9
 i9:=by kernel_rfl
 t21:=Tryz.underlying21
 a21:=run_isAgg_plain Tryz.underlying21 rfl
 z21:=Tryz.sizeOf21
 v21:=Tryz.zeroValue21
 i21:=by kernel_rfl
 t23:=Tryz.underlying179
 a23:=run_isAgg_plain Tryz.underlying179 rfl
 z23:=Tryz.sizeOf179
 v23:=Tryz.zeroValue179
 i23:=by kernel_rfl
def e201:Env:={ fn:=fun j=>if j = 201 then some f201 else none,glob:=fun _=>none,ext:=fun _=>none }
theorem ok201:EnvOk tT e201 where
 mix:=by kernel_rfl
 fn:=fun j sf h=>by
  simp only [e201] at h
  split at h
  ·rename_i hj
   subst hj
   cases h
   exact ⟨k201,Tryz.f112,Tryz.func112,c201⟩
  ·cases h
 glob:=fun g cs h=>by cases h
 ext:=fun j g h=>by cases h
theorem pred201 (n:Int):EvClosed e201 (.fn (.func 201) [] []) [.int .i32 n] = some (.bool (decide (n < 32) || decide (126 < n))):=by
 rw [EvClosed_eq (sf:=Pv.f201) rfl rfl (vs:=[.int .i32 n]) (by simp),EvFn_eq]
 cases h:decide (n < 32) <;> simp [Pv.f201,Pv.start,h]
theorem grows201 (w:World):PredGrows Tryz.prog 112 #[] oddR w:=by
 intro W x hx hb
 have hc:=calls_of (W:=W) (T:=tT) ok201 (pred201 (x:Int)) (inv_met (fun g cs hg=>by cases hg)) (l:=[.int .i32 x]) ⟨_,_,rfl,rfl,rfl⟩
 refine hc.mono fun e W' ⟨u,G',h1,h2,h3⟩=>⟨?_,h3.os,h3.tape,h3.output,h3.size,fun k hk=>h3.frame k hk (by simp [Ghost.met]) (fun _ _ _ h=>by cases h)⟩
 simp only [RepV] at h2
 rw [h1,h2]
 simp only [oddR]
 congr 3
 ·exact decide_eq_decide.2 (by omega)
 ·exact decide_eq_decide.2 (by omega)
theorem ext202 {E:Env}:ExtOk tT E 202 extIF:=by
 intro vs v hg G w l _ hl
 unfold extIF at hg
 split at hg
 ·rename_i s
  cases hg
  simp only [RepL,RepV] at hl
  obtain ⟨_,_,rfl,rfl,_,_,rfl,⟨a,b,rfl,rfl,rfl⟩,rfl⟩:=hl
  have h:=Any.strings_IndexFunc_grows laysIF 112 #[] (enters_of Tryz.func112 (by kernel_rfl) rfl) oddR ⟨⟨s⟩⟩ w (grows201 w)
  rw [idx_odd0] at h
  refine ((callsIn_wide (n:=0)).2 h).mono fun e w' ⟨h1,h2⟩=>?_
  refine ⟨⟨h2.size,h2.block,h2.os,h2.tape,h2.output⟩,_,h1,fun G' w'=>?_⟩
  simp only [RepV]
 ·cases hg
def renF:Ren:={ f:=fun k=>if k = 129 then 181 else if k = 246 then 168 else if k = 283 then 173 else if k = 284 then 174 else if k = 285 then 175 else if k = 286 then 176 else if k = 317 then 180 else if k = 318 then 182 else if k = 319 then 183 else if k = 320 then 184 else if k = 337 then 186 else if k = 338 then 187 else 1000000,t:=fun k=>if k = 37 then 201 else if k = 46 then 218 else if k = 53 then 212 else if k = 51 then 259 else if k = 171 then 250 else if k = 173 then 253 else if k = 212 then 258 else if k = 213 then 260 else if k = 232 then 264 else if k = 233 then 265 else k,g:=fun k=>if k = 17 then 8 else if k = 18 then 9 else if k = 19 then 10 else k }
theorem laysFI:LaysM.n246 Tryz.prog renF where
 mixed:=by kernel_rfl
 f129:=by kernel_rfl
 f246:=by kernel_rfl
 f283:=by kernel_rfl
 f284:=by kernel_rfl
 f285:=by kernel_rfl
 f286:=by kernel_rfl
 f317:=by kernel_rfl
 f318:=by kernel_rfl
 f319:=by kernel_rfl
 f320:=by kernel_rfl
 f337:=by kernel_rfl
 f338:=by kernel_rfl
 t0:=Tryz.underlying0
 a0:=run_isAgg_plain Tryz.underlying0 rfl
 z0:=Tryz.sizeOf0
 v0:=Tryz.zeroValue0
 i0:=by kernel_rfl
 t2:=Tryz.underlying2
 a2:=run_isAgg_plain Tryz.underlying2 rfl
 z2:=Tryz.sizeOf2
 v2:=Tryz.zeroValue2
 i2:=by kernel_rfl
 t3:=Tryz.underlying3
 a3:=run_isAgg_plain Tryz.underlying3 rfl
 z3:=Tryz.sizeOf3
 v3:=Tryz.zeroValue3
 i3:=by kernel_rfl
 t4:=Tryz.underlying4
 a4:=run_isAgg_plain Tryz.underlying4 rfl
 z4:=Tryz.sizeOf4
 v4:=Tryz.zeroValue4
 i4:=by kernel_rfl
 t5:=Tryz.underlying5
 a5:=run_isAgg_plain Tryz.underlying5 rfl
 z5:=Tryz.sizeOf5
 v5:=Tryz.zeroValue5
 i5:=by kernel_rfl
 t9:=Tryz.underlying9
 a9:=run_isAgg_plain Tryz.underlying9 rfl
 z9:=Tryz.sizeOf9
 v9:=Tryz.zeroValue9
 i9:=by kernel_rfl
 t20:=Tryz.underlying20
 a20:=run_isAgg_plain Tryz.underlying20 rfl
 z20:=Tryz.sizeOf20
 v20:=Tryz.zeroValue20
 i20:=by kernel_rfl
 t37:=Tryz.underlying201
 a37:=run_isAgg_plain Tryz.underlying201 rfl
 z37:=Tryz.sizeOf201
 v37:=Tryz.zeroValue201
 i37:=by kernel_rfl
 t46:=Tryz.underlying218
 a46:=run_isAgg_plain Tryz.underlying218 rfl
 z46:=Tryz.sizeOf218
 v46:=Tryz.zeroValue218
 i46:=by kernel_rfl
 t51:=Tryz.underlying259
 a51:=run_isAgg_plain Tryz.underlying259 rfl
 z51:=Tryz.sizeOf259
 v51:=Tryz.zeroValue259
 i51:=by kernel_rfl
 t53:=Tryz.underlying212
 a53:=run_isAgg_plain Tryz.underlying212 rfl
 z53:=Tryz.sizeOf212
 v53:=Tryz.zeroValue212
 i53:=by kernel_rfl
 t171:=Tryz.underlying250
 a171:=Tryz.isAgg250
 z171:=Tryz.sizeOf250
 v171:=Tryz.zeroValue250
 i171:=by kernel_rfl
 t173:=Tryz.underlying253
 a173:=run_isAgg_plain Tryz.underlying253 rfl
 z173:=Tryz.sizeOf253
 v173:=Tryz.zeroValue253
 i173:=by kernel_rfl
 t212:=Tryz.underlying258
 a212:=Tryz.isAgg258
 z212:=Tryz.sizeOf258
 v212:=Tryz.zeroValue258
 i212:=by kernel_rfl
 t213:=Tryz.underlying260
 a213:=Tryz.isAgg260
 z213:=Tryz.sizeOf260
 t232:=Tryz.underlying264
 a232:=Tryz.isAgg264
 z232:=Tryz.sizeOf264
 v232:=Tryz.zeroValue264
 i232:=by kernel_rfl
 t233:=Tryz.underlying265
 a233:=Tryz.isAgg265
 z233:=Tryz.sizeOf265
 v233:=Tryz.zeroValue265
 i233:=by kernel_rfl
 g17:=by kernel_rfl
 m17:=by kernel_rfl
 g18:=by kernel_rfl
 m18:=by kernel_rfl
 g19:=by kernel_rfl
 m19:=by kernel_rfl
theorem p10_all:globAll 5 = some (Lib.pow10Tab.map fun z=>AV.int .u64 z):=by kernel_rfl
theorem ext104 {E:Env} (h5:E.glob 5 = globAll 5):ExtOk tT E 104 extFI:=by
 intro vs v hg G w l hgl hl
 unfold extFI at hg
 split at hg
 ·rename_i n
  split at hg
  ·rename_i hn
   cases hg
   simp only [RepL,RepV] at hl
   obtain ⟨_,_,rfl,rfl,_,_,rfl,rfl,rfl⟩:=hl
   have htab : Lib.TabIs tT.P w "internal/strconv.uint64pow10" .u64 Lib.pow10Tab := tab_of (g := 5) (by kernel_rfl) (hgl 5 _ (h5.trans p10_all))
   have h:=Any.internal_strconv_FormatInt_10 laysFI n hn.1 hn.2 w htab
   refine ((callsIn_wide (n:=0)).2 h).mono fun e w' ⟨h1,k,os,h2⟩=>?_
   subst h2
   refine ⟨⟨by show w.heap.size ≤ (w.heap++os).size; rw [Array.size_append]; omega,fun b hb=>by show (w.heap++os)[b]? = w.heap[b]?; exact Array.getElem?_append_left hb,rfl,rfl,rfl⟩,_,h1,fun G' w'=>?_⟩
   simp only [RepV]
   rw [itoa_lib hn.1 hn.2]
  ·cases hg
 ·cases hg
theorem e_iface:∃ ms,Tryz.prog.underlying 171 = some (.interface ms):=⟨_,Tryz.underlying171⟩
theorem e_ptr:tT.P.underlying (tT.tnum 3) = some (.pointer 236):=Tryz.underlying234
theorem own:ownKnob Tryz.prog.godebug = none:=by kernel_rfl
theorem n_d32 : Tryz.prog.globalNamed "math/bits.deBruijn32tab" = some 9 := by kernel_rfl
theorem t_d32:(Tryz.prog.globals[9]?).map (·.type) = some 264:=by kernel_rfl
theorem s_d32:(globAll 6).bind (fun cs=>shutL 0 0 cs) = globAll 6:=by kernel_rfl
theorem i_d32:tT.gnum 6 = 9:=by kernel_rfl
theorem d_d32:dCells Tryz.prog 8 264 (Rows.laid_math_bits_deBruijn32tab (H:=Unit)) = globAll 6:=by kernel_rfl
theorem n_d64 : Tryz.prog.globalNamed "math/bits.deBruijn64tab" = some 10 := by kernel_rfl
theorem t_d64:(Tryz.prog.globals[10]?).map (·.type) = some 265:=by kernel_rfl
theorem s_d64:(globAll 7).bind (fun cs=>shutL 0 0 cs) = globAll 7:=by kernel_rfl
theorem i_d64:tT.gnum 7 = 10:=by kernel_rfl
theorem d_d64:dCells Tryz.prog 8 265 (Rows.laid_math_bits_deBruijn64tab (H:=Unit)) = globAll 7:=by kernel_rfl
theorem n_p10 : Tryz.prog.globalNamed "internal/strconv.uint64pow10" = some 8 := by kernel_rfl
theorem t_p10:(Tryz.prog.globals[8]?).map (·.type) = some 258:=by kernel_rfl
theorem s_p10:(globAll 5).bind (fun cs=>shutL 0 0 cs) = globAll 5:=by kernel_rfl
theorem i_p10:tT.gnum 5 = 8:=by kernel_rfl
theorem d_p10:dCells Tryz.prog 8 258 (Rows.laid_internal_strconv_uint64pow10 (H:=Unit)) = globAll 5:=by kernel_rfl
theorem n_rng : Tryz.prog.globalNamed "strconv.ErrRange" = some 6 := by kernel_rfl
theorem t_rng:(Tryz.prog.globals[6]?).map (·.type) = some 171:=by kernel_rfl
theorem s_rng:(globAll 3).bind (fun cs=>shutL 0 0 cs) = globAll 3:=by kernel_rfl
theorem i_rng:tT.gnum 3 = 6:=by kernel_rfl
theorem n_syn : Tryz.prog.globalNamed "strconv.ErrSyntax" = some 5 := by kernel_rfl
theorem t_syn:(Tryz.prog.globals[5]?).map (·.type) = some 171:=by kernel_rfl
theorem s_syn:(globAll 2).bind (fun cs=>shutL 0 0 cs) = globAll 2:=by kernel_rfl
theorem i_syn:tT.gnum 2 = 5:=by kernel_rfl
theorem n_fone : Tryz.prog.globalNamed "drachm/frac.one" = some 4 := by kernel_rfl
theorem t_fone:(Tryz.prog.globals[4]?).map (·.type) = some 40:=by kernel_rfl
theorem s_fone:(globAll 10).bind (fun cs=>shutL 0 0 cs) = globAll 10:=by kernel_rfl
theorem i_fone:tT.gnum 10 = 4:=by kernel_rfl
theorem d_fone:dCells Tryz.prog 8 40 (Rows.laid_drachm_frac_one (H:=Unit)) = globAll 10:=by kernel_rfl
theorem n_tens : Tryz.prog.globalNamed "drachm/frac.tens" = some 3 := by kernel_rfl
theorem t_tens:(Tryz.prog.globals[3]?).map (·.type) = some 193:=by kernel_rfl
theorem s_tens:(globAll 9).bind (fun cs=>shutL 0 0 cs) = globAll 9:=by kernel_rfl
theorem i_tens:tT.gnum 9 = 3:=by kernel_rfl
theorem d_tens:dCells Tryz.prog 8 193 (Rows.laid_drachm_frac_tens (H:=Unit)) = globAll 9:=by kernel_rfl
theorem n_pref : Tryz.prog.globalNamed "drachm/atoms.prefixes" = some 1 := by kernel_rfl
theorem t_pref:(Tryz.prog.globals[1]?).map (·.type) = some 155:=by kernel_rfl
theorem s_pref:(globAll 0).bind (fun cs=>shutL 0 0 cs) = globAll 0:=by kernel_rfl
theorem i_pref:tT.gnum 0 = 1:=by kernel_rfl
theorem d_pref:dCells Tryz.prog 8 155 (Rows.laid_drachm_atoms_prefixes (H:=Unit)) = globAll 0:=by kernel_rfl
theorem n_sty : Tryz.prog.globalNamed "drachm/style.styles" = some 2 := by kernel_rfl
theorem t_sty:(Tryz.prog.globals[2]?).map (·.type) = some 166:=by kernel_rfl
theorem s_sty:(globAll 1).bind (fun cs=>shutL 0 0 cs) = globAll 1:=by kernel_rfl
theorem i_sty:tT.gnum 1 = 2:=by kernel_rfl
theorem d_sty:dCells Tryz.prog 8 166 (Rows.laid_drachm_style_styles (H:=Unit)) = globAll 1:=by kernel_rfl
theorem n_one : Tryz.prog.globalNamed "drachm/eval.one" = some 0 := by kernel_rfl
theorem t_one:(Tryz.prog.globals[0]?).map (·.type) = some 44:=by kernel_rfl
theorem s_one:(globAll 8).bind (fun cs=>shutL 0 0 cs) = globAll 8:=by kernel_rfl
theorem i_one:tT.gnum 8 = 0:=by kernel_rfl
theorem d_one:dCells Tryz.prog 8 44 (Rows.laid_drachm_eval_one (H:=Unit)) = globAll 8:=by kernel_rfl
def laid7 : List (String × DataW Unit) := [("math/bits.deBruijn32tab", Rows.laid_math_bits_deBruijn32tab), ("math/bits.deBruijn64tab", Rows.laid_math_bits_deBruijn64tab), ("internal/strconv.uint64pow10", Rows.laid_internal_strconv_uint64pow10), ("strconv.ErrRange", Rows.laid_strconv_ErrRange), ("strconv.ErrSyntax", Rows.laid_strconv_ErrSyntax), ("drachm/frac.one", Rows.laid_drachm_frac_one), ("drachm/frac.tens", Rows.laid_drachm_frac_tens), ("drachm/atoms.prefixes", Rows.laid_drachm_atoms_prefixes), ("drachm/style.styles", Rows.laid_drachm_style_styles), ("drachm/eval.one", Rows.laid_drachm_eval_one)]
theorem door_met7 (os:Os) (args:Array Value):laidMetH Tryz.prog laid7 ((World.doorLaid Tryz.prog 4000 os).forCall (fun _ _=>0) ⟨#[],args,[]⟩).memory:=
 laidMetH_of_parts3 (fuel:=8) (laidMet_of_run' 8 (by kernel_rfl) (by kernel_rfl)) (by kernel_rfl) (by kernel_rfl)
theorem star_es : "*" ++ "errors.errorString" = "*errors.errorString" := by decide
theorem only_es (u : TypeId) (h : Tryz.prog.typeName? 3 u = some "*errors.errorString") : u = tT.tnum 3 := by
 have e:tT.tnum 3 = 234:=by kernel_rfl
 rw [e]
 exact typeName_ptr_named (nm := "errors.errorString") (by rw [star_es]; kernel_rfl) (by kernel_rfl) (by decide) u (by rw [star_es]; exact h)
def Met (W:World) (g:Nat) (cs:List AV):Prop:=∃ c e fz l,W.heap[tT.gnum g]? = some (.cells c e fz)∧RepL tT (Ghost.met W) W cs l∧(∀ (i:Nat) (v:Value),l[i]? = some v→c[i]? = some v)∧c.size = l.length
set_option maxRecDepth 100000 in
theorem glob_of7 {W:World} (h:laidMetH Tryz.prog laid7 W):∀ g cs,globAll g = some cs→Met W g cs:=by
 rw [MakeChecks.laidMetH_plain _ _ _ (by kernel_rfl)] at h
 obtain ⟨ps,hl,hrest⟩:=h
 obtain ⟨_,hok⟩:=hrest
 obtain ⟨ms,e_ifc⟩:=e_iface
 have sub0:∀ x ∈ ps,x ∈ ps:=fun x hx=>hx
 obtain ⟨⟨c_d32,m_d32⟩,q1,l1,u1⟩:(∃ cs,globAll 6 = some cs∧Met W 6 cs)∧∃ q,DataW.LaidVars tT.P W _ q∧∀ x ∈ q,x ∈ _:=by
  have hh:=d_d32
  cases hc:globAll 6 with
  | none=>
   have hs:(globAll 6).isSome = true:=rfl
   rw [hc] at hs
   cases hs
  | some cs=>
   rw [hc] at hh
   obtain ⟨h1,h2⟩:=laid_plain (T:=tT) hl n_d32 t_d32 hh
   exact ⟨⟨cs,rfl,h1⟩,h2⟩
 have sub1:=fun x hx=>sub0 x (u1 x hx)
 obtain ⟨⟨c_d64,m_d64⟩,q2,l2,u2⟩:(∃ cs,globAll 7 = some cs∧Met W 7 cs)∧∃ q,DataW.LaidVars tT.P W _ q∧∀ x ∈ q,x ∈ _:=by
  have hh:=d_d64
  cases hc:globAll 7 with
  | none=>
   have hs:(globAll 7).isSome = true:=rfl
   rw [hc] at hs
   cases hs
  | some cs=>
   rw [hc] at hh
   obtain ⟨h1,h2⟩:=laid_plain (T:=tT) l1 n_d64 t_d64 hh
   exact ⟨⟨cs,rfl,h1⟩,h2⟩
 have sub2:=fun x hx=>sub1 x (u2 x hx)
 obtain ⟨⟨c_p10,m_p10⟩,q3,l3,u3⟩:(∃ cs,globAll 5 = some cs∧Met W 5 cs)∧∃ q,DataW.LaidVars tT.P W _ q∧∀ x ∈ q,x ∈ _:=by
  have hh:=d_p10
  cases hc:globAll 5 with
  | none=>
   have hs:(globAll 5).isSome = true:=rfl
   rw [hc] at hs
   cases hs
  | some cs=>
   rw [hc] at hh
   obtain ⟨h1,h2⟩:=laid_plain (T:=tT) l2 n_p10 t_p10 hh
   exact ⟨⟨cs,rfl,h1⟩,h2⟩
 have sub3:=fun x hx=>sub2 x (u3 x hx)
 obtain ⟨m_rng,q4,l4,u4⟩:=laid_err (T:=tT) l3 n_rng t_rng e_ifc (j:=3) only_es e_ptr (n:=8) (fun b off hm u v hc=>(hok b off (sub3 _ hm)).2 u v hc) (l:=[.str [118,97,108,117,101,32,111,117,116,32,111,102,32,114,97,110,103,101]]) (by kernel_rfl) (by decide)
 have sub4:=fun x hx=>sub3 x (u4 x hx)
 obtain ⟨m_syn,q5,l5,u5⟩:=laid_err (T:=tT) l4 n_syn t_syn e_ifc (j:=3) only_es e_ptr (n:=8) (fun b off hm u v hc=>(hok b off (sub4 _ hm)).2 u v hc) (l:=[.str [105,110,118,97,108,105,100,32,115,121,110,116,97,120]]) (by kernel_rfl) (by decide)
 have sub5:=fun x hx=>sub4 x (u5 x hx)
 obtain ⟨⟨c_fone,m_fone⟩,q6,l6,u6⟩:(∃ cs,globAll 10 = some cs∧Met W 10 cs)∧∃ q,DataW.LaidVars tT.P W _ q∧∀ x ∈ q,x ∈ _:=by
  have hh:=d_fone
  cases hc:globAll 10 with
  | none=>
   have hs:(globAll 10).isSome = true:=rfl
   rw [hc] at hs
   cases hs
  | some cs=>
   rw [hc] at hh
   obtain ⟨h1,h2⟩:=laid_plain (T:=tT) l5 n_fone t_fone hh
   exact ⟨⟨cs,rfl,h1⟩,h2⟩
 have sub6:=fun x hx=>sub5 x (u6 x hx)
 obtain ⟨⟨c_tens,m_tens⟩,q7,l7,u7⟩:(∃ cs,globAll 9 = some cs∧Met W 9 cs)∧∃ q,DataW.LaidVars tT.P W _ q∧∀ x ∈ q,x ∈ _:=by
  have hh:=d_tens
  cases hc:globAll 9 with
  | none=>
   have hs:(globAll 9).isSome = true:=rfl
   rw [hc] at hs
   cases hs
  | some cs=>
   rw [hc] at hh
   obtain ⟨h1,h2⟩:=laid_plain (T:=tT) l6 n_tens t_tens hh
   exact ⟨⟨cs,rfl,h1⟩,h2⟩
 have sub7:=fun x hx=>sub6 x (u7 x hx)
 obtain ⟨⟨c_pref,m_pref⟩,q8,l8,u8⟩:(∃ cs,globAll 0 = some cs∧Met W 0 cs)∧∃ q,DataW.LaidVars tT.P W _ q∧∀ x ∈ q,x ∈ _:=by
  have hh:=d_pref
  cases hc:globAll 0 with
  | none=>
   have hs:(globAll 0).isSome = true:=rfl
   rw [hc] at hs
   cases hs
  | some cs=>
   rw [hc] at hh
   obtain ⟨h1,h2⟩:=laid_plain (T:=tT) l7 n_pref t_pref hh
   exact ⟨⟨cs,rfl,h1⟩,h2⟩
 have sub8:=fun x hx=>sub7 x (u8 x hx)
 obtain ⟨⟨c_sty,m_sty⟩,q9,l9,u9⟩:(∃ cs,globAll 1 = some cs∧Met W 1 cs)∧∃ q,DataW.LaidVars tT.P W _ q∧∀ x ∈ q,x ∈ _:=by
  have hh:=d_sty
  cases hc:globAll 1 with
  | none=>
   have hs:(globAll 1).isSome = true:=rfl
   rw [hc] at hs
   cases hs
  | some cs=>
   rw [hc] at hh
   obtain ⟨h1,h2⟩:=laid_plain (T:=tT) l8 n_sty t_sty hh
   exact ⟨⟨cs,rfl,h1⟩,h2⟩
 have sub9:=fun x hx=>sub8 x (u9 x hx)
 obtain ⟨⟨c_one,m_one⟩,q10,l10,u10⟩:(∃ cs,globAll 8 = some cs∧Met W 8 cs)∧∃ q,DataW.LaidVars tT.P W _ q∧∀ x ∈ q,x ∈ _:=by
  have hh:=d_one
  cases hc:globAll 8 with
  | none=>
   have hs:(globAll 8).isSome = true:=rfl
   rw [hc] at hs
   cases hs
  | some cs=>
   rw [hc] at hh
   obtain ⟨h1,h2⟩:=laid_plain (T:=tT) l9 n_one t_one hh
   exact ⟨⟨cs,rfl,h1⟩,h2⟩
 have sub10:=fun x hx=>sub9 x (u10 x hx)
 intro g cs hg
 have hgs:g = 0∨g = 1∨g = 2∨g = 3∨g = 5∨g = 6∨g = 7∨g = 8∨g = 9∨g = 10:=by
  unfold globAll at hg
  split at hg <;> first | omega | cases hg
 rcases hgs with rfl | rfl | rfl | rfl | rfl | rfl | rfl | rfl | rfl | rfl
 ·obtain ⟨h1,h2⟩:=m_pref
  rw [h1] at hg
  cases hg
  exact h2
 ·obtain ⟨h1,h2⟩:=m_sty
  rw [h1] at hg
  cases hg
  exact h2
 ·have:globAll 2 = some [.iface 3 (.pin [.str [105,110,118,97,108,105,100,32,115,121,110,116,97,120]])]:=by rfl
  rw [this] at hg
  cases hg
  exact m_syn
 ·have:globAll 3 = some [.iface 3 (.pin [.str [118,97,108,117,101,32,111,117,116,32,111,102,32,114,97,110,103,101]])]:=by rfl
  rw [this] at hg
  cases hg
  exact m_rng
 ·obtain ⟨h1,h2⟩:=m_p10
  rw [h1] at hg
  cases hg
  exact h2
 ·obtain ⟨h1,h2⟩:=m_d32
  rw [h1] at hg
  cases hg
  exact h2
 ·obtain ⟨h1,h2⟩:=m_d64
  rw [h1] at hg
  cases hg
  exact h2
 ·obtain ⟨h1,h2⟩:=m_one
  rw [h1] at hg
  cases hg
  exact h2
 ·obtain ⟨h1,h2⟩:=m_tens
  rw [h1] at hg
  cases hg
  exact h2
 ·obtain ⟨h1,h2⟩:=m_fone
  rw [h1] at hg
  cases hg
  exact h2
theorem shut7:∀ g cs,globAll g = some cs→shutL 0 0 cs = some cs:=by
 intro g cs hg
 have hgs:g = 0∨g = 1∨g = 2∨g = 3∨g = 5∨g = 6∨g = 7∨g = 8∨g = 9∨g = 10:=by
  unfold globAll at hg
  split at hg <;> first | omega | cases hg
 rcases hgs with rfl | rfl | rfl | rfl | rfl | rfl | rfl | rfl | rfl | rfl
 ·have h:=s_pref
  rw [hg] at h
  exact h
 ·have h:=s_sty
  rw [hg] at h
  exact h
 ·have h:=s_syn
  rw [hg] at h
  exact h
 ·have h:=s_rng
  rw [hg] at h
  exact h
 ·have h:=s_p10
  rw [hg] at h
  exact h
 ·have h:=s_d32
  rw [hg] at h
  exact h
 ·have h:=s_d64
  rw [hg] at h
  exact h
 ·have h:=s_one
  rw [hg] at h
  exact h
 ·have h:=s_tens
  rw [hg] at h
  exact h
 ·have h:=s_fone
  rw [hg] at h
  exact h
end Go.Proofs.YtamopjeecnhfaaaGreatDoor
