/- A part of the proof: functions of the program in the evaluator's code, and what they come to. Conditions: none; definitions and theorems that the statement's proof uses. -/
import Derived.Test.YtamopjeecnhfaaaGreatDoorSetwPcFr13
/- The program's worths: Right, put. Conditions: the functions' codes; theorems. -/
namespace Go.Pv
variable {E:Env}
structure Wo where
 f:Fc
 d:List Int
 tag:Int
deriving DecidableEq
def Wo.C (w:Wo):List AV:=fcC w.f++dC w.d++[.int .i64 w.tag]
def Wo.A (w:Wo):AV:=.agg w.C
def wo0C:List AV:=[.int .i64 0,.int .i64 0,.int .i64 0,.int .i64 0,.int .i64 0,.int .i64 0,.int .i64 0,.int .i64 0,.int .i64 0,.int .i64 0,.int .i64 0]
def rsW:Except Int Wo→AV
 | .ok w=>.tuple [w.A,.int .i64 0]
 | .error e=>.tuple [.agg wo0C,.int .i64 e]
structure WoOk (w:Wo):Prop where
 f:FcOk w.f
 len:w.d.length = 7
 d:dOk w.d = true
 t0:0 ≤ w.tag
 t1:w.tag ≤ 99
def putR (tg:Bool) (r:Except Int Fc) (d:List Int):Except Int Wo:=
 if tg then .error 18 else match r with
  | .error e=>.error e
  | .ok f=>if dOk d then .ok ⟨f,d,0⟩ else .error 10
theorem seven {d:List Int} (h:d.length = 7):∃ a0 a1 a2 a3 a4 a5 a6,d = [a0,a1,a2,a3,a4,a5,a6]:=by
 match d,h with
 | [a0,a1,a2,a3,a4,a5,a6],_=>exact ⟨a0,a1,a2,a3,a4,a5,a6,rfl⟩
theorem right336 (H:Has 336 E) {w:Wo} (hw:WoOk w):EvClosed E (.fn (.func 336) [] []) [w.A] = some (.bool true):=by
 obtain ⟨f,d,tag⟩:=w
 have q1:=right325 (H.to 325) hw.f
 have q2:=dims_right (H.to 339) hw.len
 rw [hw.d] at q2
 obtain ⟨a0,a1,a2,a3,a4,a5,a6,hd⟩:=seven hw.len
 have h0:=hw.t0
 have h1:=hw.t1
 dsimp only at *
 subst hd
 simp only [Wo.A,Wo.C,fcA,fcC,dC,List.map_cons,List.map_nil,List.cons_append,List.nil_append] at *
 rw [EvClosed_eq H.c336 rfl (vs:=[.agg [.int .i64 f.num,.int .i64 f.den,.int .i64 f.ten,.int .i64 a0,.int .i64 a1,.int .i64 a2,.int .i64 a3,.int .i64 a4,.int .i64 a5,.int .i64 a6,.int .i64 tag]]) (by simp),EvFn_eq]
 simp [f336,start,EvCall_closed H.c325 rfl,EvCall_closed H.c339 rfl,q1,q2,h0,h1]
theorem putR_ok {r:Except Int Fc} {d:List Int} {w:Wo} {tg:Bool} (h:putR tg r d = .ok w):tg = false∧r = .ok w.f∧w.d = d∧dOk d = true∧w.tag = 0:=by
 unfold putR at h
 cases tg with
 | true=>simp at h
 | false=>
  cases r with
  | error e=>simp at h
  | ok f=>
   cases hd:dOk d with
   | true=>simp [hd] at h; subst h; simp
   | false=>simp [hd] at h
set_option maxRecDepth 20000 in
set_option maxHeartbeats 2000000 in
theorem put2 (H:Has 309 E) {a b:Wo} (ha:WoOk a) (hb:WoOk b) {x0 x1 x2:ABlk} {N P:AV} {r:Except Int Fc} {d:List Int} (hd:d.length = 7) (hne:∀ e,r = .error e→e ≠ 0)
  (hN:∀ g:AHeap,g.bl 0 = some x0→g.bl 1 = some x1→EvCall E N [] g = some (.ret (rsF r),g)) (hP:∀ g:AHeap,g.bl 0 = some x0→g.bl 1 = some x1→EvCall E P [] g = some (.ret (dRes d),g)):
  EvCall E (.fn (.func 309) [] []) [N,P,.vs .full 2 (a.C++b.C)] (h3 x0 x1 x2) = some (.ret (rsW (putR (decide (a.tag ≠ 0) || decide (b.tag ≠ 0)) r d)),h3 x0 x1 x2):=by
 rw [EvCall_reader H.c309 rfl,EvFn_eq]
 have q1:=right336 (H.to 336) ha
 have q2:=right336 (H.to 336) hb
 obtain ⟨fa,da,ta⟩:=a
 obtain ⟨fb,db,tb⟩:=b
 obtain ⟨a0,a1,a2,a3,a4,a5,a6,hda⟩:=seven ha.len
 obtain ⟨b0,b1,b2,b3,b4,b5,b6,hdb⟩:=seven hb.len
 dsimp only at *
 subst hda hdb
 have w1:IntKind.i64.wrap 1 = 1:=w64
 have w2:IntKind.i64.wrap 2 = 2:=w64
 simp only [Wo.A,Wo.C,fcC,dC,List.map_cons,List.map_nil,List.cons_append,List.nil_append] at *
 by_cases hta:ta = 0
 ·by_cases htb:tb = 0
  ·subst hta htb
   cases r with
   | error e=>
    have he:(e != 0) = true:=by simpa using hne e rfl
    simp only [rsF,fc0] at hN
    simp [f309,start,EvCode_loop,l309_0,EvCall_closed H.c336 rfl,q1,q2,w1,w2,hN,he,push_setk,push_setl,putR,rsW,wo0C]
   | ok f=>
    simp only [rsF,fcA,fcC] at hN
    cases hk:dOk d with
    | true=>
     obtain ⟨d0,d1,d2,d3,d4,d5,d6,hdd⟩:=seven hd
     subst hdd
     simp only [dRes,hk,if_true,dC,List.map_cons,List.map_nil] at hP
     simp [f309,start,EvCode_loop,l309_0,EvCall_closed H.c336 rfl,q1,q2,w1,w2,hN,hP,push_setk,push_setl,putR,rsW,hk,Wo.A,Wo.C,fcC,dC]
    | false=>
     simp only [dRes,hk,d0,Bool.false_eq_true,if_false,dC,List.map_cons,List.map_nil] at hP
     simp [f309,start,EvCode_loop,l309_0,EvCall_closed H.c336 rfl,q1,q2,w1,w2,hN,hP,push_setk,push_setl,putR,rsW,hk,wo0C]
  ·subst hta
   have htb':(tb == 0) = false:=by simpa using htb
   simp [f309,start,EvCode_loop,l309_0,EvCall_closed H.c336 rfl,q1,q2,w1,w2,htb,htb',push_setk,push_setl,putR,rsW,wo0C]
 ·have hta':(ta == 0) = false:=by simpa using hta
  by_cases htb:tb = 0
  ·subst htb
   simp [f309,start,EvCode_loop,l309_0,EvCall_closed H.c336 rfl,q1,q2,w1,w2,hta,hta',push_setk,push_setl,putR,rsW,wo0C]
  ·have htb':(tb == 0) = false:=by simpa using htb
   simp [f309,start,EvCode_loop,l309_0,EvCall_closed H.c336 rfl,q1,q2,w1,w2,hta,hta',htb,htb',push_setk,push_setl,putR,rsW,wo0C]
end Go.Pv
/- The program's worths: products, quotients, powers. Conditions: the functions' codes; theorems. -/
namespace Go.Pv
variable {E:Env}
def addD (a b:List Int):List Int:=List.zipWith (· + ·) a b
def subD (a b:List Int):List Int:=List.zipWith (· - ·) a b
def mulD (a:List Int) (n:Int):List Int:=a.map (· * n)
def mulW (a b:Wo):Except Int Wo:=putR (decide (a.tag ≠ 0) || decide (b.tag ≠ 0)) (mulF a.f b.f) (addD a.d b.d)
def divW (a b:Wo):Except Int Wo:=putR (decide (a.tag ≠ 0) || decide (b.tag ≠ 0)) (divF a.f b.f) (subD a.d b.d)
def powW (a:Wo) (n:Int):Except Int Wo:=putR (decide (a.tag ≠ 0)) (powF a.f n) (mulD a.d n)
theorem prodL_ne {x y:Lo} {t:Int} {e:Int} (h:prodL x y t = .error e):e ≠ 0:=by
 unfold prodL overE at h
 split at h
 ·cases h; decide
 ·split at h
  ·cases h
  ·cases h; decide
theorem mulF_ne {a b:Fc} {e:Int} (h:mulF a b = .error e):e ≠ 0:=by
 unfold mulF at h
 split at h
 ·cases h
 ·exact prodL_ne h
theorem divF_ne {a b:Fc} {e:Int} (h:divF a b = .error e):e ≠ 0:=by
 unfold divF at h
 split at h
 ·cases h; decide
 ·split at h
  ·cases h
  ·exact prodL_ne h
theorem powF_ne {a:Fc} {n:Int} {e:Int} (h:powF a n = .error e):e ≠ 0:=by
 unfold powF overE at h
 split at h
 ·cases h; decide
 ·split at h
  ·cases h
  ·split at h
   ·cases h
   ·split at h
    ·cases h; decide
    ·split at h
     ·cases h
     ·cases h; decide
theorem Wo.C_len {w:Wo} (h:w.d.length = 7):w.C.length = 11:=by simp [Wo.C,fcC,dC,h]
theorem Wo.C_f (w:Wo):w.C.take 3 = fcC w.f:=by simp [Wo.C,fcC]
theorem Wo.C_d {w:Wo} (h:w.d.length = 7):(w.C.drop 3).take 7 = dC w.d:=by
 obtain ⟨a0,a1,a2,a3,a4,a5,a6,hd⟩:=seven h
 simp [Wo.C,fcC,hd,dC]
theorem Wo.C_all (w:Wo):w.C.all AV.isCell = true:=by simp [Wo.C,fcC,dC]
theorem shutL_app:∀ (a b:List AV),shutL 0 0 a = some a→shutL 0 0 b = some b→shutL 0 0 (a++b) = some (a++b)
 | [],b,_,h=>by simpa using h
 | x :: l,b,h,h'=>by
  simp only [shutL] at h
  split at h
  ·rename_i v vs h1 h2
   simp only [Option.some.injEq,List.cons.injEq] at h
   rw [h.1] at h1
   rw [h.2] at h2
   have:=shutL_app l b h2 h'
   simp [shutL,h1,this]
  ·cases h
theorem Wo.C_shut (w:Wo):shutL 0 0 w.C = some w.C:=by
 unfold Wo.C
 exact shutL_app _ _ (shutL_app _ _ (by simp [fcC]) (shutL_dC _)) (by simp)
theorem cl314 (H:Has 314 E) {a b:Wo} (ha:WoOk a) (hb:WoOk b) {g:AHeap} (h0:g.bl 0 = some (.cells a.C)) (h1:g.bl 1 = some (.cells b.C)):
  EvCall E (.fn (.func 314) [] [.ref 0 0,.ref 1 0]) [] g = some (.ret (rsF (mulF a.f b.f)),g):=by
 rw [EvCall_reader H.c314 rfl,EvFn_eq]
 have q:=mul302 (H.to 302) ha.f hb.f
 have l1:=Wo.C_len ha.len
 have l2:=Wo.C_len hb.len
 have t1:=Wo.C_f a
 have t2:=Wo.C_f b
 obtain ⟨n,d,t,e,hr⟩:=rsF_shape (mulF a.f b.f)
 simp only [hr,fcA] at q ⊢
 have m0:=blk_lt h0
 have m1:=blk_lt h1
 have k0:¬ 0 = g.blks.length:=by omega
 have k1:¬ 1 = g.blks.length:=by omega
 generalize a.C = A at *
 generalize b.C = B at *
 simp [f314,start,h0,h1,k0,k1,l1,l2,t1,t2,EvCall_closed H.c302 rfl,q,push_setk,readEnd]
theorem cl310 (H:Has 310 E) {a b:Wo} (ha:WoOk a) (hb:WoOk b) {g:AHeap} (h0:g.bl 0 = some (.cells a.C)) (h1:g.bl 1 = some (.cells b.C)):
  EvCall E (.fn (.func 310) [] [.ref 0 0,.ref 1 0]) [] g = some (.ret (rsF (divF a.f b.f)),g):=by
 rw [EvCall_reader H.c310 rfl,EvFn_eq]
 have q:=div311 (H.to 311) ha.f hb.f
 have l1:=Wo.C_len ha.len
 have l2:=Wo.C_len hb.len
 have t1:=Wo.C_f a
 have t2:=Wo.C_f b
 obtain ⟨n,d,t,e,hr⟩:=rsF_shape (divF a.f b.f)
 simp only [hr,fcA] at q ⊢
 have m0:=blk_lt h0
 have m1:=blk_lt h1
 have k0:¬ 0 = g.blks.length:=by omega
 have k1:¬ 1 = g.blks.length:=by omega
 generalize a.C = A at *
 generalize b.C = B at *
 simp [f310,start,h0,h1,k0,k1,l1,l2,t1,t2,EvCall_closed H.c311 rfl,q,push_setk,readEnd]
theorem cl315 (H:Has 315 E) {a b:Wo} (ha:WoOk a) (hb:WoOk b) {g:AHeap} (h0:g.bl 0 = some (.cells a.C)) (h1:g.bl 1 = some (.cells b.C)):
  EvCall E (.fn (.func 315) [] [.ref 0 0,.ref 1 0]) [] g = some (.ret (dRes (addD a.d b.d)),g):=by
 rw [EvCall_reader H.c315 rfl,EvFn_eq]
 have q:=add316 (H.to 316) ha.len hb.len ha.d hb.d
 have l1:=Wo.C_len ha.len
 have l2:=Wo.C_len hb.len
 have t1:=Wo.C_d ha.len
 have t2:=Wo.C_d hb.len
 have hz:(addD a.d b.d).length = 7:=by unfold addD; rw [List.length_zipWith,ha.len,hb.len]; rfl
 have l3:=dif_len hz
 obtain ⟨e0,e1,e2,e3,e4,e5,e6,he⟩:=seven (d:=(if dOk (addD a.d b.d) then addD a.d b.d else d0)) (by rw [dC_len] at l3; exact l3)
 unfold addD at *
 unfold dRes at q ⊢
 rw [he] at q ⊢
 have m0:=blk_lt h0
 have m1:=blk_lt h1
 have k0:¬ 0 = g.blks.length:=by omega
 have k1:¬ 1 = g.blks.length:=by omega
 generalize a.C = A at *
 generalize b.C = B at *
 generalize dC a.d = DA at *
 generalize dC b.d = DB at *
 simp only [dC,List.map_cons,List.map_nil] at q ⊢
 simp [f315,start,h0,h1,k0,k1,l1,l2,t1,t2,EvCall_closed H.c316 rfl,q,push_setk,readEnd]
theorem cl312 (H:Has 312 E) {a b:Wo} (ha:WoOk a) (hb:WoOk b) {g:AHeap} (h0:g.bl 0 = some (.cells a.C)) (h1:g.bl 1 = some (.cells b.C)):
  EvCall E (.fn (.func 312) [] [.ref 0 0,.ref 1 0]) [] g = some (.ret (dRes (subD a.d b.d)),g):=by
 rw [EvCall_reader H.c312 rfl,EvFn_eq]
 have q:=sub313 (H.to 313) ha.len hb.len ha.d hb.d
 have l1:=Wo.C_len ha.len
 have l2:=Wo.C_len hb.len
 have t1:=Wo.C_d ha.len
 have t2:=Wo.C_d hb.len
 have hz:(subD a.d b.d).length = 7:=by unfold subD; rw [List.length_zipWith,ha.len,hb.len]; rfl
 have l3:=dif_len hz
 obtain ⟨e0,e1,e2,e3,e4,e5,e6,he⟩:=seven (d:=(if dOk (subD a.d b.d) then subD a.d b.d else d0)) (by rw [dC_len] at l3; exact l3)
 unfold subD at *
 unfold dRes at q ⊢
 rw [he] at q ⊢
 have m0:=blk_lt h0
 have m1:=blk_lt h1
 have k0:¬ 0 = g.blks.length:=by omega
 have k1:¬ 1 = g.blks.length:=by omega
 generalize a.C = A at *
 generalize b.C = B at *
 generalize dC a.d = DA at *
 generalize dC b.d = DB at *
 simp only [dC,List.map_cons,List.map_nil] at q ⊢
 simp [f312,start,h0,h1,k0,k1,l1,l2,t1,t2,EvCall_closed H.c313 rfl,q,push_setk,readEnd]
theorem cl328 (H:Has 328 E) {a:Wo} (ha:WoOk a) {n:Int} (n1:-99 ≤ n) (n2:n ≤ 99) {g:AHeap} (h0:g.bl 0 = some (.cells a.C)) (h1:g.bl 1 = some (.cells [.int .i64 n])):
  EvCall E (.fn (.func 328) [] [.ref 0 0,.ref 1 0]) [] g = some (.ret (rsF (powF a.f n)),g):=by
 rw [EvCall_reader H.c328 rfl,EvFn_eq]
 have q:=pow329 (H.to 329) ha.f n1 n2
 have l1:=Wo.C_len ha.len
 have t1:=Wo.C_f a
 obtain ⟨u,d,t,e,hr⟩:=rsF_shape (powF a.f n)
 simp only [hr,fcA] at q ⊢
 have m0:=blk_lt h0
 have m1:=blk_lt h1
 have k0:¬ 0 = g.blks.length:=by omega
 have k1:¬ 1 = g.blks.length:=by omega
 generalize a.C = A at *
 simp [f328,start,h0,h1,k0,k1,l1,t1,EvCall_closed H.c329 rfl,q,push_setk,readEnd]
theorem cl330 (H:Has 330 E) {a:Wo} (ha:WoOk a) {n:Int} (n1:-99 ≤ n) (n2:n ≤ 99) {g:AHeap} (h0:g.bl 0 = some (.cells a.C)) (h1:g.bl 1 = some (.cells [.int .i64 n])):
  EvCall E (.fn (.func 330) [] [.ref 0 0,.ref 1 0]) [] g = some (.ret (dRes (mulD a.d n)),g):=by
 rw [EvCall_reader H.c330 rfl,EvFn_eq]
 have q:=times331 (H.to 331) ha.len ha.d n1 n2
 have l1:=Wo.C_len ha.len
 have t1:=Wo.C_d ha.len
 have hz:(mulD a.d n).length = 7:=by unfold mulD; rw [List.length_map,ha.len]
 have l3:=dif_len hz
 obtain ⟨e0,e1,e2,e3,e4,e5,e6,he⟩:=seven (d:=(if dOk (mulD a.d n) then mulD a.d n else d0)) (by rw [dC_len] at l3; exact l3)
 unfold mulD at *
 unfold dRes at q ⊢
 rw [he] at q ⊢
 have m0:=blk_lt h0
 have m1:=blk_lt h1
 have k0:¬ 0 = g.blks.length:=by omega
 have k1:¬ 1 = g.blks.length:=by omega
 generalize a.C = A at *
 generalize dC a.d = DA at *
 simp only [dC,List.map_cons,List.map_nil] at q ⊢
 simp [f330,start,h0,h1,k0,k1,l1,t1,EvCall_closed H.c331 rfl,q,push_setk,readEnd]
end Go.Pv
/- The program's worths: Mul, Div, Pow, Of. Conditions: the functions' codes; theorems. -/
namespace Go.Pv
variable {E:Env}
set_option maxRecDepth 20000 in
set_option maxHeartbeats 2000000 in
theorem put1 (H:Has 309 E) {a:Wo} (ha:WoOk a) {x0 x1 x2:ABlk} {N P:AV} {r:Except Int Fc} {d:List Int} (hd:d.length = 7) (hne:∀ e,r = .error e→e ≠ 0)
  (hN:∀ g:AHeap,g.bl 0 = some x0→g.bl 1 = some x1→EvCall E N [] g = some (.ret (rsF r),g)) (hP:∀ g:AHeap,g.bl 0 = some x0→g.bl 1 = some x1→EvCall E P [] g = some (.ret (dRes d),g)):
  EvCall E (.fn (.func 309) [] []) [N,P,.vs .full 1 a.C] (h3 x0 x1 x2) = some (.ret (rsW (putR (decide (a.tag ≠ 0)) r d)),h3 x0 x1 x2):=by
 rw [EvCall_reader H.c309 rfl,EvFn_eq]
 have q1:=right336 (H.to 336) ha
 obtain ⟨fa,da,ta⟩:=a
 obtain ⟨a0,a1,a2,a3,a4,a5,a6,hda⟩:=seven ha.len
 dsimp only at *
 subst hda
 have w1:IntKind.i64.wrap 1 = 1:=w64
 simp only [Wo.A,Wo.C,fcC,dC,List.map_cons,List.map_nil,List.cons_append,List.nil_append] at *
 by_cases hta:ta = 0
 ·subst hta
  cases r with
  | error e=>
   have he:(e != 0) = true:=by simpa using hne e rfl
   simp only [rsF,fc0] at hN
   simp [f309,start,EvCode_loop,l309_0,EvCall_closed H.c336 rfl,q1,w1,hN,he,push_setk,push_setl,putR,rsW,wo0C]
  | ok f=>
   simp only [rsF,fcA,fcC] at hN
   cases hk:dOk d with
   | true=>
    obtain ⟨d0,d1,d2,d3,d4,d5,d6,hdd⟩:=seven hd
    subst hdd
    simp only [dRes,hk,if_true,dC,List.map_cons,List.map_nil] at hP
    simp [f309,start,EvCode_loop,l309_0,EvCall_closed H.c336 rfl,q1,w1,hN,hP,push_setk,push_setl,putR,rsW,hk,Wo.A,Wo.C,fcC,dC]
   | false=>
    simp only [dRes,hk,d0,Bool.false_eq_true,if_false,dC,List.map_cons,List.map_nil] at hP
    simp [f309,start,EvCode_loop,l309_0,EvCall_closed H.c336 rfl,q1,w1,hN,hP,push_setk,push_setl,putR,rsW,hk,wo0C]
 ·have hta':(ta == 0) = false:=by simpa using hta
  simp [f309,start,EvCode_loop,l309_0,EvCall_closed H.c336 rfl,q1,w1,hta,hta',push_setk,push_setl,putR,rsW,wo0C]
theorem putR_d {tg:Bool} {r:Except Int Fc} {d:List Int} (hd:d.length = 7):∃ (cs:List AV) (e:Int),rsW (putR tg r d) = .tuple [.agg cs,.int .i64 e]∧cs.length = 11∧cs.all AV.isCell = true∧shutL 0 0 cs = some cs:=by
 have z:∃ (cs:List AV) (e':Int),AV.tuple [.agg wo0C,.int .i64 e'] = .tuple [.agg cs,.int .i64 e']∧cs.length = 11∧cs.all AV.isCell = true∧shutL 0 0 cs = some cs:=⟨wo0C,0,rfl,rfl,rfl,rfl⟩
 unfold putR
 cases tg with
 | true=>exact ⟨wo0C,18,rfl,rfl,rfl,rfl⟩
 | false=>
  cases r with
  | error e=>exact ⟨wo0C,e,rfl,rfl,rfl,rfl⟩
  | ok f=>
   cases hk:dOk d with
   | true=>exact ⟨(⟨f,d,0⟩:Wo).C,0,by simp [rsW,Wo.A],Wo.C_len hd,Wo.C_all _,Wo.C_shut _⟩
   | false=>exact ⟨wo0C,10,by simp [rsW],rfl,rfl,rfl⟩
theorem set_w0 {l:List AV} (h:l.length = 11):setCells 0 l wo0C = l:=setCells_full (by rw [h]; rfl)
theorem setCells_at (pre l post cs:List AV) (h:cs.length = l.length):setCells pre.length cs (pre++l++post) = pre++cs++post:=by
 induction cs generalizing pre l with
 | nil=>
  have:l = []:=List.eq_nil_of_length_eq_zero (by simpa using h.symm)
  subst this
  simp [setCells]
 | cons c cs ih=>
  cases l with
  | nil=>simp at h
  | cons x l=>
   have:=ih (pre++[c]) l (by simpa using h)
   simp only [setCells]
   simp only [List.length_append,List.length_singleton,List.append_assoc,List.cons_append,List.nil_append] at this
   rw [List.append_assoc,List.set_append_right _ _ (Nat.le_refl _)]
   simpa using this
set_option maxRecDepth 20000 in
set_option maxHeartbeats 1000000 in
theorem mulW_eq (H:Has 295 E) {a b:Wo} (ha:WoOk a) (hb:WoOk b):EvClosed E (.fn (.func 295) [] []) [a.A,b.A] = some (rsW (mulW a b)):=by
 rw [EvClosed_eq H.c295 rfl (vs:=[a.A,b.A]) (by simp [Wo.A,Wo.C_shut]),EvFn_eq]
 have hz:(addD a.d b.d).length = 7:=by unfold addD; rw [List.length_zipWith,ha.len,hb.len]; rfl
 have q:=put2 (H.to 309) ha hb (x0:=.cells a.C) (x1:=.cells b.C) (x2:=.cells wo0C) (N:=.fn (.func 314) [] [.ref 0 0,.ref 1 0]) (P:=.fn (.func 315) [] [.ref 0 0,.ref 1 0]) hz (fun e he=>mulF_ne he) (fun g h0 h1=>cl314 (H.to 314) ha hb h0 h1) (fun g h0 h1=>cl315 (H.to 315) ha hb h0 h1)
 obtain ⟨cs,e,h1,h2,h3,h4⟩:=putR_d (tg:=decide (a.tag ≠ 0) || decide (b.tag ≠ 0)) (r:=mulF a.f b.f) hz
 unfold mulW
 rw [h1] at q ⊢
 have l1:=Wo.C_len ha.len
 have l2:=Wo.C_len hb.len
 have t1:a.C.take 11 = a.C:=List.take_of_length_le (by omega)
 have t2:b.C.take 11 = b.C:=List.take_of_length_le (by omega)
 have t3:cs.take 11 = cs:=List.take_of_length_le (by omega)
 have c1:=Wo.C_all a
 have c2:=Wo.C_all b
 have s0:=set_w0 h2
 have s1:setCells 0 a.C (wo0C++wo0C) = a.C++wo0C:=by simpa using setCells_at [] wo0C wo0C a.C (by rw [l1]; rfl)
 have s2:setCells 11 b.C (a.C++wo0C) = a.C++b.C:=by simpa [l1] using setCells_at a.C wo0C [] b.C (by rw [l2]; rfl)
 simp only [wo0C,List.cons_append,List.nil_append] at q s0 s1 s2
 simp only [Wo.A]
 generalize a.C = A at *
 generalize b.C = B at *
 simp [f295,start,l1,l2,t1,t2,t3,s0,s1,s2,q,h2,h3,h4,push_setk]
set_option maxRecDepth 20000 in
set_option maxHeartbeats 1000000 in
theorem divW_eq (H:Has 294 E) {a b:Wo} (ha:WoOk a) (hb:WoOk b):EvClosed E (.fn (.func 294) [] []) [a.A,b.A] = some (rsW (divW a b)):=by
 rw [EvClosed_eq H.c294 rfl (vs:=[a.A,b.A]) (by simp [Wo.A,Wo.C_shut]),EvFn_eq]
 have hz:(subD a.d b.d).length = 7:=by unfold subD; rw [List.length_zipWith,ha.len,hb.len]; rfl
 have q:=put2 (H.to 309) ha hb (x0:=.cells a.C) (x1:=.cells b.C) (x2:=.cells wo0C) (N:=.fn (.func 310) [] [.ref 0 0,.ref 1 0]) (P:=.fn (.func 312) [] [.ref 0 0,.ref 1 0]) hz (fun e he=>divF_ne he) (fun g h0 h1=>cl310 (H.to 310) ha hb h0 h1) (fun g h0 h1=>cl312 (H.to 312) ha hb h0 h1)
 obtain ⟨cs,e,h1,h2,h3,h4⟩:=putR_d (tg:=decide (a.tag ≠ 0) || decide (b.tag ≠ 0)) (r:=divF a.f b.f) hz
 unfold divW
 rw [h1] at q ⊢
 have l1:=Wo.C_len ha.len
 have l2:=Wo.C_len hb.len
 have t1:a.C.take 11 = a.C:=List.take_of_length_le (by omega)
 have t2:b.C.take 11 = b.C:=List.take_of_length_le (by omega)
 have t3:cs.take 11 = cs:=List.take_of_length_le (by omega)
 have c1:=Wo.C_all a
 have c2:=Wo.C_all b
 have s0:=set_w0 h2
 have s1:setCells 0 a.C (wo0C++wo0C) = a.C++wo0C:=by simpa using setCells_at [] wo0C wo0C a.C (by rw [l1]; rfl)
 have s2:setCells 11 b.C (a.C++wo0C) = a.C++b.C:=by simpa [l1] using setCells_at a.C wo0C [] b.C (by rw [l2]; rfl)
 simp only [wo0C,List.cons_append,List.nil_append] at q s0 s1 s2
 simp only [Wo.A]
 generalize a.C = A at *
 generalize b.C = B at *
 simp [f294,start,l1,l2,t1,t2,t3,s0,s1,s2,q,h2,h3,h4,push_setk]
set_option maxRecDepth 20000 in
set_option maxHeartbeats 1000000 in
theorem powW_eq (H:Has 303 E) {a:Wo} (ha:WoOk a) {n:Int} (n1:-99 ≤ n) (n2:n ≤ 99):EvClosed E (.fn (.func 303) [] []) [a.A,.int .i64 n] = some (rsW (powW a n)):=by
 rw [EvClosed_eq H.c303 rfl (vs:=[a.A,.int .i64 n]) (by simp [Wo.A,Wo.C_shut]),EvFn_eq]
 have hz:(mulD a.d n).length = 7:=by unfold mulD; rw [List.length_map,ha.len]
 have q:=put1 (H.to 309) ha (x0:=.cells a.C) (x1:=.cells [.int .i64 n]) (x2:=.cells wo0C) (N:=.fn (.func 328) [] [.ref 0 0,.ref 1 0]) (P:=.fn (.func 330) [] [.ref 0 0,.ref 1 0]) hz (fun e he=>powF_ne he) (fun g h0 h1=>cl328 (H.to 328) ha n1 n2 h0 h1) (fun g h0 h1=>cl330 (H.to 330) ha n1 n2 h0 h1)
 obtain ⟨cs,e,h1,h2,h3,h4⟩:=putR_d (tg:=decide (a.tag ≠ 0)) (r:=powF a.f n) hz
 unfold powW
 rw [h1] at q ⊢
 have l1:=Wo.C_len ha.len
 have t1:a.C.take 11 = a.C:=List.take_of_length_le (by omega)
 have t3:cs.take 11 = cs:=List.take_of_length_le (by omega)
 have s0:=set_w0 h2
 have s1:=set_w0 l1
 have c1:¬ n < -99:=by omega
 have c2:¬ 99 < n:=by omega
 simp only [wo0C] at q s0 s1
 simp only [Wo.A]
 generalize a.C = A at *
 simp [f303,start,l1,t1,t3,s0,s1,q,h2,h3,h4,c1,c2,push_setk]
def ofW (n:Int):Except Int Wo:=match makeF n 1 0 with | .error e=>.error e | .ok f=>.ok ⟨f,d0,0⟩
theorem ofW_eq (H:Has 293 E) {n:Int} (hn:n.natAbs ≤ 9223372036854775807):EvClosed E (.fn (.func 293) [] []) [.int .i64 n] = some (rsW (ofW n)):=by
 rw [EvClosed_eq H.c293 rfl (vs:=[.int .i64 n]) (by simp),EvFn_eq]
 have q:=make308 (H.to 308) hn (den:=1) (by decide) (ten:=0)
 unfold ofW
 cases hm:makeF n 1 0 with
 | error e=>
  rw [hm] at q
  have he:(e != 0) = true:=by
   unfold makeF overE at hm
   split at hm
   ·cases hm; decide
   ·split at hm
    ·cases hm
    ·split at hm
     ·cases hm; decide
     ·split at hm
      ·cases hm
      ·cases hm; decide
  simp only [rsF,fc0] at q
  simp [f293,start,EvCall_closed H.c308 rfl,q,he,push_setk,push_setl,rsW,wo0C]
 | ok f=>
  rw [hm] at q
  simp only [rsF,fcA,fcC] at q
  simp [f293,start,EvCall_closed H.c308 rfl,q,push_setk,push_setl,rsW,Wo.A,Wo.C,fcC,dC,d0]
end Go.Pv
