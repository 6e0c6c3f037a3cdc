/- A part of the proof: functions of the program in the evaluator's code, and what they come to. Conditions: none; definitions and theorems that the statement's proof uses. -/
import Derived.Test.YtamopjeecnhfaaaGreatDoorSetgPcTree3
/- The laws EvalPrefixes and EvalBases. Conditions: the functions' codes; theorems. -/
namespace Go.Pv
variable {E:Env}
def prefsOk:Bool:=(List.range 20).all fun p=>(List.range 48).all fun a=>match atomsT[a]? with
 | none=>true
 | some r=>!r.metric || r.tag != 0 || (match symR ⟨2,p,a,1,0,[]⟩,symR ⟨2,-1,a,1,0,[]⟩ with
  | .ok x,.ok y=>(match mulW y ⟨⟨1,1,prefTen p⟩,d0,0⟩ with | .ok z=>decide (x = z) && decide (x.d = y.d) | .error _=>false)
  | _,_=>false)
theorem prefs_ok:prefsOk = true:=by decide +kernel
theorem prefx_at {p a:Nat} {r:AtomR} (hp:p < 20) (ha:a < 48) (hr:atomsT[a]? = some r) (hm:r.metric = true) (ht:r.tag = 0):∃ x y,symR ⟨2,p,a,1,0,[]⟩ = .ok x∧symR ⟨2,-1,a,1,0,[]⟩ = .ok y∧mulW y ⟨⟨1,1,prefTen p⟩,d0,0⟩ = .ok x∧x.d = y.d:=by
 have h:=List.all_eq_true.1 (List.all_eq_true.1 prefs_ok p (List.mem_range.2 hp)) a (List.mem_range.2 ha)
 simp only [hr,hm,ht,Bool.not_true,Bool.false_or,bne_self_eq_false] at h
 split at h
 ·rename_i x y hx hy
  split at h
  ·rename_i z hz
   simp only [Bool.and_eq_true,decide_eq_true_eq] at h
   exact ⟨x,y,hx,hy,by rw [hz,h.1],h.2⟩
  ·cases h
 ·cases h
theorem eq7 {a b:List Int} (ha:a.length = 7) (hb:b.length = 7):eqCells [.int,.int,.int,.int,.int,.int,.int] (iC a) (iC b) = some (decide (a = b)):=eqC 7 a b ha hb
set_option maxRecDepth 20000 in
set_option maxHeartbeats 2000000 in
theorem evalPrefixes_eq (H:Has 273 E) (p a:Int):EvClosed E (.fn (.func 273) [] []) [.int .i64 p,.int .i64 a] = some (.bool true):=by
 rw [EvClosed_eq H.c273 rfl (vs:=[.int .i64 p,.int .i64 a]) (by simp),EvFn_eq]
 have haw:=awake278_eq (H.to 278)
 have h1:=rest279_eq (H.to 279) (x:=p) (m:=20) (by omega) (by omega)
 have h2:=rest279_eq (H.to 279) (x:=a) (m:=48) (by omega) (by omega)
 have qt:=refTable_eq (H.to 51)
 obtain ⟨k,hk⟩:∃ k:Nat,p % 20 = k:=⟨(p % 20).toNat,by omega⟩
 obtain ⟨i,hi⟩:∃ i:Nat,a % 48 = i:=⟨(a % 48).toNat,by omega⟩
 have hk20:k < 20:=by omega
 have hi48:i < 48:=by omega
 rw [hk] at h1
 rw [hi] at h2
 have hia:i < atomsT.length:=hi48
 have hai:atomsT[i]? = some atomsT[i]:=List.getElem?_eq_getElem hia
 have hA5:((atomsT.flatMap (acs .full)).drop (i * 12 + 5)).take 1 = [.bool (atomsT[i]'hia).metric]:=by
  rw [fm_at (acs_len .full) hia (by omega)]; rfl
 have hA6:((atomsT.flatMap (acs .full)).drop (i * 12 + 6)).take 1 = [.int .i64 (atomsT[i]'hia).tag]:=by
  rw [fm_at (acs_len .full) hia (by omega)]; rfl
 have hAl:(atomsT.flatMap (acs .full)).length = 576:=by rw [fm_len (acs_len .full)]; rfl
 have hPl:(prefsT.flatMap PrefR.cells).length = 120:=by rw [fm_len PrefR.len]; rfl
 have hpc:=pref_cells (p:=(k:Int)) (by omega) (show (k:Int) < prefsT.length from by show (k:Int) < 20; omega)
 rw [Int.toNat_natCast] at hpc
 generalize (atomsT[i]'hia) = r at hai hA5 hA6
 have e1:(i:Int) < 48:=by omega
 have e2:i * 12 < 576:=by omega
 have e3:5 < 576 - i * 12:=by omega
 have e4:1 ≤ 571 - i * 12:=by omega
 have e5:6 < 576 - i * 12:=by omega
 have e6:1 ≤ 570 - i * 12:=by omega
 have f1:(k:Int) < 20:=by omega
 have f2:k * 6 < 120:=by omega
 have f3:5 < 120 - k * 6:=by omega
 have f4:1 ≤ 115 - k * 6:=by omega
 have hA:refB.A = .vs .shared 48 (atomsT.flatMap (acs .full)):=rfl
 have hP:refB.P = .vs .full 20 (prefsT.flatMap PrefR.cells):=rfl
 rw [refB_V,hA,hP] at qt
 by_cases hm:r.metric = true
 ·by_cases ht:r.tag = 0
  ·obtain ⟨x,y,hx,hy,hz,hd⟩:=prefx_at hk20 hi48 hai hm ht
   have xo:=symR_wo hx
   have yo:=symR_wo hy
   have q1:=symbol287 (H.to 287) ⟨2,k,i,1,0,[]⟩
   have q2:=symbol287 (H.to 287) ⟨2,-1,i,1,0,[]⟩
   have po:WoOk ⟨⟨1,1,prefTen k⟩,d0,0⟩:=⟨pref_ok (by omega) (show (k:Int) < prefsT.length from by show (k:Int) < 20; omega),rfl,rfl,Int.le_refl 0,by show (0:Int) ≤ 99; decide⟩
   have q3:=mul284 (H.to 284) yo po
   rw [hx,rsW_ok,wL_C] at q1
   rw [hy,rsW_ok,wL_C] at q2
   rw [hz,gtW_ok] at q3
   simp only [Wo.A,wL_C] at q3
   have lx:(wL x).length = 11:=by simp [wL,xo.len]
   have ly:(wL y).length = 11:=by simp [wL,yo.len]
   have hpl:wL ⟨⟨1,1,prefTen k⟩,d0,0⟩ = [1,1,prefTen k,0,0,0,0,0,0,0,0]:=rfl
   rw [hpl] at q3
   have cx:=iC_len (wL x)
   have cy:=iC_len (wL y)
   rw [lx] at cx
   rw [ly] at cy
   have ax:=iC_all (wL x)
   have ay:=iC_all (wL y)
   have sx:=set_11 cx
   have sy:=set_11 cy
   have tx:(iC (wL x)).take 11 = iC (wL x):=List.take_of_length_le (by omega)
   have ty:(iC (wL y)).take 11 = iC (wL y):=List.take_of_length_le (by omega)
   have dx:((iC (wL x)).drop 3).take 7 = iC x.d:=by rw [← wL_C]; exact Wo.C_d xo.len
   have dy:((iC (wL y)).drop 3).take 7 = iC x.d:=by rw [hd,← wL_C]; exact Wo.C_d yo.len
   have s12:setCells 0 (iC (wL x)++[AV.int .i64 0]) z12C = iC (wL x)++[AV.int .i64 0]:=set_12 (by rw [List.length_append,cx]; rfl)
   have t11:(iC (wL x)++[AV.int .i64 0]).take 11 = iC (wL x):=List.take_left' cx
   have d11:((iC (wL x)++[AV.int .i64 0]).drop 11).take 1 = [AV.int .i64 0]:=by rw [List.drop_left' cx]; rfl
   have l12:(iC (wL x)++[AV.int .i64 0]).length = 12:=by rw [List.length_append,cx]; rfl
   have a12:(iC (wL x)++[AV.int .i64 0]).all AV.isCell = true:=by rw [List.all_append,ax]; rfl
   have ex:=eq11s lx
   have ed:=eq7 (a:=x.d) (b:=x.d) xo.len xo.len
   simp only [decide_true] at ed
   simp only [iC,List.map_cons,List.map_nil] at q3
   simp only [← iC.eq_1] at q3
   generalize hds:iC (wL x)++[AV.int .i64 0] = ds at *
   generalize iC x.d = dd at *
   generalize iC (wL x) = cx' at *
   generalize iC (wL y) = cy' at *
   generalize (atomsT.flatMap (acs .full)) = A0 at *
   generalize (prefsT.flatMap PrefR.cells) = P0 at *
   generalize prefTen k = tn at *
   simp only [StepA.cs] at q1 q2
   simp [f273,start,EvCall_closed H.c278 rfl,EvCall_closed H.c51 rfl,EvCall_closed H.c279 rfl,EvCall_closed H.c287 rfl,haw,h1,h2,qt,q1,q2,q3,hA5,hA6,hAl,hPl,hpc,e1,e2,e3,e4,e5,e6,f1,f2,f3,f4,hm,ht,cx,cy,ax,ay,sx,sy,tx,ty,dx,dy,s12,t11,d11,l12,a12,ex,ed,push_setk]
  ·have ht':(r.tag != 0) = true:=by simpa using ht
   generalize (atomsT.flatMap (acs .full)) = A0 at *
   generalize (prefsT.flatMap PrefR.cells) = P0 at *
   simp [f273,start,EvCall_closed H.c278 rfl,EvCall_closed H.c51 rfl,EvCall_closed H.c279 rfl,haw,h1,h2,qt,hA5,hA6,hAl,e1,e2,e3,e4,e5,e6,hm,ht',push_setk]
 ·have hm':r.metric = false:=by simpa using hm
  generalize (atomsT.flatMap (acs .full)) = A0 at *
  generalize (prefsT.flatMap PrefR.cells) = P0 at *
  simp [f273,start,EvCall_closed H.c278 rfl,EvCall_closed H.c51 rfl,EvCall_closed H.c279 rfl,haw,h1,h2,qt,hA5,hAl,e1,e2,e3,e4,hm',push_setk]
end Go.Pv
