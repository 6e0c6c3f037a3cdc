/- A part of the proof: functions of the program in the evaluator's code, and what they come to. Conditions: none; definitions and theorems that the statement's proof uses. -/
import Derived.Test.YtamopjeecnhfaaaGreatDoorSetwPcFr6
/- The program's fractions: Right, Make, Mul, Div. Conditions: the functions' codes; theorems. -/
namespace Go.Pv
variable {E:Env}
def prodL (x y:Lo) (ten:Int):Except Int Fc:=match timesL x y with | none=>.error 10 | some z=>overE (formL z ten)
def makeF (num den ten:Int):Except Int Fc:=
 if den = 0 then .error 11 else if num = 0 then .ok ⟨0,1,0⟩ else if ten < -2000∨2000 < ten then .error 10 else overE (formL (loosen num den) ten)
def mulF (a b:Fc):Except Int Fc:=if a.num = 0∨b.num = 0 then .ok ⟨0,1,0⟩ else prodL (loosen a.num a.den) (loosen b.num b.den) (a.ten + b.ten)
def divF (a b:Fc):Except Int Fc:=if b.num = 0 then .error 11 else if a.num = 0 then .ok a else prodL (loosen a.num a.den) (invL (loosen b.num b.den)) (a.ten - b.ten)
theorem timesL_te {x y z:Lo} (h:timesL x y = some z):z.two = x.two + y.two∧z.five = x.five + y.five:=by
 unfold timesL at h
 split at h
 ·cases h; exact ⟨rfl,rfl⟩
 ·exact absurd h (by simp)
theorem rsF_shape (r:Except Int Fc):∃ (n d t e:Int),rsF r = .tuple [.agg [.int .i64 n,.int .i64 d,.int .i64 t],.int .i64 e]:=by
 cases r with
 | ok f=>exact ⟨f.num,f.den,f.ten,0,rfl⟩
 | error e=>exact ⟨0,0,0,e,rfl⟩
theorem product326 (H:Has 326 E) {x y:Lo} (hx:LoOk x) (hy:LoOk y) (x2:x.two.natAbs ≤ 500000) (x5:x.five.natAbs ≤ 500000) (y2:y.two.natAbs ≤ 500000) (y5:y.five.natAbs ≤ 500000) {ten:Int} (ht:ten.natAbs ≤ 1000000):
  EvClosed E (.fn (.func 326) [] []) [loA x,loA y,.int .i64 ten] = some (rsF (prodL x y ten)):=by
 rw [EvClosed_eq H.c326 rfl (vs:=[loA x,loA y,.int .i64 ten]) (by simp [loA,loC]),EvFn_eq]
 obtain ⟨u,d,h1,h2⟩:=times346 (H.to 346) hx hy (by omega) (by omega) (by omega) (by omega)
 unfold prodL
 cases hz:timesL x y with
 | none=>
  rw [hz] at h1
  simp only [loA,loC,Option.isSome_none] at h1 ⊢
  simp [f326,start,EvCall_closed H.c346 rfl,h1,push_setk,rsF,fc0]
 | some z=>
  rw [hz] at h1
  obtain ⟨e1,e2⟩:=h2 z hz
  obtain ⟨e3,e4⟩:=timesL_te hz
  have hf:=form335 (H.to 335) (timesL_ok hx hy hz) (by omega) (by omega) ht
  subst e1 e2
  rw [← e3,← e4] at h1
  obtain ⟨n,d,t,e,hr⟩:=rsF_shape (overE (formL z ten))
  simp only [hr] at hf ⊢
  simp only [loA,loC,Option.isSome_some] at h1 hf ⊢
  simp [f326,start,EvCall_closed H.c346 rfl,EvCall_closed H.c335 rfl,h1,hf,push_setk]
set_option maxRecDepth 20000 in
theorem right325 (H:Has 325 E) {f:Fc} (hf:FcOk f):EvClosed E (.fn (.func 325) [] []) [fcA f] = some (.bool true):=by
 rw [EvClosed_eq H.c325 rfl (vs:=[fcA f]) (by simp [fcA,fcC]),EvFn_eq]
 obtain ⟨num,den,ten⟩:=f
 by_cases h0:num = 0
 ·obtain ⟨h1,h2⟩:=hf.zero h0
  dsimp only at h1 h2
  subst h0 h1 h2
  simp [f325,start,fcA,fcC]
 ·have h1:=hf.nt
  have h2:=hf.d2
  have h3:=hf.d5
  have h4:=hf.n10 h0
  have h5:=hf.co h0
  have h6:=hf.t0
  have h7:=hf.t1
  have h8:=hf.d0
  have h9:=hf.dt
  dsimp only at h1 h2 h3 h4 h5 h6 h7 h8 h9
  have z0:(num == 0) = false:=by simpa using h0
  have z1:=fits334 (H.to 334) num
  rw [decide_eq_true (by omega)] at z1
  have z2:=gcd345 (H.to 345) (a:=num) (b:=(den:Int)) h1 (by omega)
  rw [Int.natAbs_natCast,show Nat.gcd num.natAbs den = 1 from h5] at z2
  have z3:((den:Int).tmod 2 != 0) = true:=by
   rw [show (den:Int).tmod 2 = ((den % 2:Nat):Int) from (Int.ofNat_tmod den 2).symm]
   simp; omega
  have z4:((den:Int).tmod 5 != 0) = true:=by
   rw [show (den:Int).tmod 5 = ((den % 5:Nat):Int) from (Int.ofNat_tmod den 5).symm]
   simp; omega
  have z5:(num.tmod 10 != 0) = true:=by
   have:(num.tmod 10).natAbs = num.natAbs % 10:=Int.natAbs_tmod num 10
   simp; omega
  have z6:(1:Int) ≤ den:=by omega
  simp [f325,start,fcA,fcC,EvCall_closed H.c334 rfl,EvCall_closed H.c345 rfl,z0,z1,z2,z3,z4,z5,z6,h6,h7]
theorem make308 (H:Has 308 E) {num den ten:Int} (hn:num.natAbs ≤ 9223372036854775807) (hd:den.natAbs ≤ 9223372036854775807):
  EvClosed E (.fn (.func 308) [] []) [.int .i64 num,.int .i64 den,.int .i64 ten] = some (rsF (makeF num den ten)):=by
 rw [EvClosed_eq H.c308 rfl (vs:=[.int .i64 num,.int .i64 den,.int .i64 ten]) (by simp),EvFn_eq]
 have h1:=fits334 (H.to 334) num
 have h2:=fits334 (H.to 334) den
 rw [decide_eq_true (by omega)] at h1 h2
 unfold makeF
 by_cases d0:den = 0
 ·subst d0
  simp [f308,start,EvCall_closed H.c334 rfl,h1,h2,push_setk,rsF,fc0]
 ·have d0':(den == 0) = false:=by simpa using d0
  by_cases n0:num = 0
  ·subst n0
   simp [f308,start,EvCall_closed H.c334 rfl,h1,h2,push_setk,rsF,fcA,fcC,d0,d0']
  ·have n0':(num == 0) = false:=by simpa using n0
   by_cases t0:ten < -2000
   ·simp [f308,start,EvCall_closed H.c334 rfl,h1,h2,push_setk,rsF,fc0,d0,d0',n0,n0',t0]
   ·by_cases t1:2000 < ten
    ·simp [f308,start,EvCall_closed H.c334 rfl,h1,h2,push_setk,rsF,fc0,d0,d0',n0,n0',t0,t1]
    ·have hl:=loosen327 (H.to 327) n0 d0 hn hd
     obtain ⟨k,kb⟩:=loosen_ok n0 d0 hn hd
     have hf:=form335 (H.to 335) k (by omega) (by omega) (ten:=ten) (by omega)
     obtain ⟨n,d,t,e,hr⟩:=rsF_shape (overE (formL (loosen num den) ten))
     simp only [d0,n0,t0,t1,if_false,or_self,hr] at hf ⊢
     simp only [loA,loC] at hl hf
     simp [f308,start,EvCall_closed H.c334 rfl,EvCall_closed H.c327 rfl,EvCall_closed H.c335 rfl,h1,h2,hl,hf,push_setk,d0',n0',t0,t1]
set_option maxRecDepth 20000 in
theorem mul302 (H:Has 302 E) {a b:Fc} (ha:FcOk a) (hb:FcOk b):EvClosed E (.fn (.func 302) [] []) [fcA a,fcA b] = some (rsF (mulF a b)):=by
 rw [EvClosed_eq H.c302 rfl (vs:=[fcA a,fcA b]) (by simp [fcA,fcC]),EvFn_eq]
 have h1:=right325 (H.to 325) ha
 have h2:=right325 (H.to 325) hb
 unfold mulF
 by_cases a0:a.num = 0
 ·simp only [fcA,fcC] at h1 h2 ⊢
  simp only [a0] at h1 ⊢
  simp [f302,start,EvCall_closed H.c325 rfl,h1,h2,push_setk,rsF,fcA,fcC]
 ·have a0':(a.num == 0) = false:=by simpa using a0
  by_cases b0:b.num = 0
  ·simp only [fcA,fcC] at h1 h2 ⊢
   simp only [b0] at h2 ⊢
   simp [f302,start,EvCall_closed H.c325 rfl,h1,h2,push_setk,rsF,fcA,fcC,a0,a0']
  ·have b0':(b.num == 0) = false:=by simpa using b0
   have ad:(a.den:Int) ≠ 0:=by have:=ha.d0; omega
   have bd:(b.den:Int) ≠ 0:=by have:=hb.d0; omega
   have l1:=loosen327 (H.to 327) a0 ad ha.nt (by have:=ha.dt; omega)
   have l2:=loosen327 (H.to 327) b0 bd hb.nt (by have:=hb.dt; omega)
   obtain ⟨k1,kb1⟩:=loosen_ok a0 ad ha.nt (by have:=ha.dt; omega)
   obtain ⟨k2,kb2⟩:=loosen_ok b0 bd hb.nt (by have:=hb.dt; omega)
   have t1:=ha.t0; have t2:=ha.t1; have t3:=hb.t0; have t4:=hb.t1
   have hp:=product326 (H.to 326) k1 k2 (by omega) (by omega) (by omega) (by omega) (ten:=a.ten + b.ten) (by omega)
   have w:IntKind.i64.wrap (a.ten + b.ten) = a.ten + b.ten:=w64
   obtain ⟨n,d,t,e,hr⟩:=rsF_shape (prodL (loosen a.num a.den) (loosen b.num b.den) (a.ten + b.ten))
   simp only [a0,b0,if_false,or_self,hr] at hp ⊢
   simp only [loA,loC,fcA,fcC] at *
   simp [f302,start,EvCall_closed H.c325 rfl,h1,h2,l1,l2,hp,w,push_setk,a0',b0']
set_option maxRecDepth 20000 in
theorem div311 (H:Has 311 E) {a b:Fc} (ha:FcOk a) (hb:FcOk b):EvClosed E (.fn (.func 311) [] []) [fcA a,fcA b] = some (rsF (divF a b)):=by
 rw [EvClosed_eq H.c311 rfl (vs:=[fcA a,fcA b]) (by simp [fcA,fcC]),EvFn_eq]
 have h1:=right325 (H.to 325) ha
 have h2:=right325 (H.to 325) hb
 unfold divF
 by_cases b0:b.num = 0
 ·simp only [fcA,fcC] at h1 h2 ⊢
  simp only [b0] at h2 ⊢
  simp [f311,start,EvCall_closed H.c325 rfl,h1,h2,push_setk,rsF,fc0]
 ·have b0':(b.num == 0) = false:=by simpa using b0
  by_cases a0:a.num = 0
  ·simp only [fcA,fcC] at h1 h2 ⊢
   simp only [a0] at h1 ⊢
   simp [f311,start,EvCall_closed H.c325 rfl,h1,h2,push_setk,rsF,fcA,fcC,a0,b0,b0']
  ·have a0':(a.num == 0) = false:=by simpa using a0
   have ad:(a.den:Int) ≠ 0:=by have:=ha.d0; omega
   have bd:(b.den:Int) ≠ 0:=by have:=hb.d0; omega
   have l1:=loosen327 (H.to 327) a0 ad ha.nt (by have:=ha.dt; omega)
   have l2:=loosen327 (H.to 327) b0 bd hb.nt (by have:=hb.dt; omega)
   obtain ⟨k1,kb1⟩:=loosen_ok a0 ad ha.nt (by have:=ha.dt; omega)
   obtain ⟨k2,kb2⟩:=loosen_ok b0 bd hb.nt (by have:=hb.dt; omega)
   have t1:=ha.t0; have t2:=ha.t1; have t3:=hb.t0; have t4:=hb.t1
   have hi:=invL_eq (H.to 337) k2 (by omega) (by omega)
   have i1:(invL (loosen b.num b.den)).two = -(loosen b.num b.den).two:=rfl
   have i2:(invL (loosen b.num b.den)).five = -(loosen b.num b.den).five:=rfl
   have hp:=product326 (H.to 326) k1 (invL_ok k2) (by omega) (by omega) (by omega) (by omega) (ten:=a.ten - b.ten) (by omega)
   have w:IntKind.i64.wrap (a.ten - b.ten) = a.ten - b.ten:=w64
   obtain ⟨n,d,t,e,hr⟩:=rsF_shape (prodL (loosen a.num a.den) (invL (loosen b.num b.den)) (a.ten - b.ten))
   simp only [a0,b0,if_false,hr] at hp ⊢
   clear i1 i2
   generalize invL (loosen b.num b.den) = v at *
   simp only [loA,loC,fcA,fcC] at *
   simp [f311,start,EvCall_closed H.c325 rfl,h1,h2,l1,l2,hi,hp,w,push_setk,a0',b0']
end Go.Pv
/- The program's dims: Right, sums, differences, times. Conditions: the functions' codes; theorems. -/
namespace Go.Pv
variable {E:Env}
def dC (d:List Int):List AV:=d.map (.int .i64)
def dOk1 (n:Int):Bool:=decide (-99 ≤ n) && decide (n ≤ 99)
def dOk (d:List Int):Bool:=d.all dOk1
abbrev rh (A:List AV) (x:ABlk):AHeap:=(((heap0.push (.cells A)).push (.cells [.bool false])).push (.cells A)).push x
abbrev rec339 (t:List AV):ABlk:=.loop .ready none t [7,8] a339_0 b339_0
theorem round_ok {n:Int} (hn:dOk1 n = true) {A t:List AV} {i:Int} (ht:t.length = 15) (_h2:t[2]? = some (.ref 1 0)):
  EvCall E (.fn (.yield 3) [] []) [.int .i64 i,.int .i64 n] (rh A (rec339 t)) = some (.ret (.bool true),rh A (rec339 t)):=by
 have hl:(rh A (rec339 t)).bl 3 = some (rec339 t):=by simp
 rw [EvCall_yield,EvRound_eq (h:=rh A (rec339 t)) hl rfl]
 unfold dOk1 at hn
 simp only [Bool.and_eq_true,decide_eq_true_eq] at hn
 have c1:¬ n < -99:=by omega
 have c2:¬ 99 < n:=by omega
 simp [-getElem?_pos,a339_0,b339_0,setAll,beginRd,endRd,ht,c1,c2,push_setk]
 rfl
theorem round_bad {n:Int} (hn:dOk1 n = false) {A t:List AV} {i:Int} (ht:t.length = 15) (h2:t[2]? = some (.ref 1 0)):
  EvCall E (.fn (.yield 3) [] []) [.int .i64 i,.int .i64 n] (rh A (rec339 t)) = some (.ret (.bool false),rh A (.loop .done (some .ret) t [7,8] a339_0 b339_0)):=by
 have hl:(rh A (rec339 t)).bl 3 = some (rec339 t):=by simp
 rw [EvCall_yield,EvRound_eq (h:=rh A (rec339 t)) hl rfl]
 unfold dOk1 at hn
 have hn':n < -99∨99 < n:=by
  by_cases h1:-99 ≤ n <;> by_cases h2:n ≤ 99
  ·simp [h1,h2] at hn
  ·right; omega
  ·left; omega
  ·left; omega
 by_cases c1:n < -99
 ·simp [-getElem?_pos,a339_0,b339_0,setAll,beginRd,endRd,h2,ht,c1,push_setk,push_setl]
 ·have c2:99 < n:=by omega
  simp [-getElem?_pos,a339_0,b339_0,setAll,beginRd,endRd,h2,ht,c1,c2,push_setk,push_setl]
theorem dims_loop {d:List Int} (hd:d.length = 7) {t:List AV} (ht:t.length = 15) (h2:t[2]? = some (.ref 1 0)):∀ (r i:Nat) (F:Fr),i + r = 7→mask k357_0 F = s357_0 (.fn (.yield 3) [] []) (.agg (dC d)) (.int .i64 i) →
  EvCode E (.loop k357_0 l357_0) F (rh (dC d) (rec339 t)) = some (if dOk (d.drop i) then (.exit 0,x357_0,rh (dC d) (rec339 t)) else (.ret,r357,rh (dC d) (.loop .done (some .ret) t [7,8] a339_0 b339_0))):=by
 intro r
 induction r with
 | zero=>
  intro i F hi hF
  have hi':i = 7:=by omega
  subst hi'
  rw [EvCode_loop,hF]
  have:d.drop 7 = []:=List.drop_eq_nil_of_le (by omega)
  rw [this]
  simp [l357_0,s357_0,x357_0,dOk]
 | succ r ih=>
  intro i F hi hF
  have hlt:i < d.length:=by omega
  have hw:IntKind.i64.wrap ((i:Int) + 1) = ((i + 1:Nat):Int):=w64
  have h7:(i:Int) < 7:=by omega
  have hA:((dC d).drop i).take 1 = [.int .i64 d[i]]:=by
   unfold dC
   rw [List.drop_eq_getElem_cons (by simpa using hlt)]
   simp
  have hlen:(dC d).length = 7:=by unfold dC; simpa using hd
  have ih':=ih (i + 1)
  rw [EvCode_loop,hF]
  rw [List.drop_eq_getElem_cons hlt]
  generalize EvCode E (.loop k357_0 l357_0) = lp at ih' ⊢
  generalize hx:d[i] = x at *
  have h71:i + 1 ≤ 7:=by omega
  by_cases hz:x = 0
  ·subst hz
   have e:dOk (0 :: d.drop (i + 1)) = dOk (d.drop (i + 1)):=by simp [dOk,dOk1]
   rw [e]
   generalize dC d = A at *
   simp [l357_0,s357_0,h7,hlen,hA,hw,h71]
   exact ih' _ (by omega) (by simp [s357_0])
  ·have hz':(x != 0) = true:=by simpa using hz
   cases ho:dOk1 x with
   | true=>
    have e:dOk (x :: d.drop (i + 1)) = dOk (d.drop (i + 1)):=by simp [dOk,ho]
    rw [e]
    have hr:=round_ok (E:=E) ho (A:=dC d) (t:=t) (i:=i) ht h2
    generalize dC d = A at *
    simp [l357_0,s357_0,h7,hlen,hA,hw,h71,hz',hr]
    exact ih' _ (by omega) (by simp [s357_0])
   | false=>
    have e:dOk (x :: d.drop (i + 1)) = false:=by simp [dOk,ho]
    rw [e]
    have hr:=round_bad (E:=E) ho (A:=dC d) (t:=t) (i:=i) ht h2
    generalize dC d = A at *
    simp [l357_0,s357_0,h7,hlen,hA,h71,hz',hr,r357]
theorem shutL_dC:∀ d,shutL 0 0 (dC d) = some (dC d)
 | []=>rfl
 | x :: d=>by
  have:=shutL_dC d
  unfold dC at this ⊢
  simp [this]
theorem dC_len (d:List Int):(dC d).length = d.length:=by simp [dC]
theorem dims_right (H:Has 339 E) {d:List Int} (hd:d.length = 7):EvClosed E (.fn (.func 339) [] []) [.agg (dC d)] = some (.bool (dOk d)):=by
 have hsh:=shutL_dC d
 rw [EvClosed_eq H.c339 rfl (vs:=[.agg (dC d)]) (by simp [hsh]),EvFn_eq]
 have hlen:(dC d).length = 7:=by rw [dC_len,hd]
 have htk:(dC d).take 7 = dC d:=List.take_of_length_le (by omega)
 have hcall:EvCall E (.fn (.func 351) [] []) [.agg (dC d)] ((heap0.push (.cells (dC d))).push (.cells [.bool false])) = some (.ret (.fn (.func 357) [] [.ref 2 0]),((heap0.push (.cells (dC d))).push (.cells [.bool false])).push (.cells (dC d))):=by
  rw [EvCall_open H.c351 rfl,EvFn_eq]
  generalize dC d = A at *
  simp [f351,start,hlen]
 have hrun:=fun (t:List AV) ht h2=>dims_loop (E:=E) hd (t:=t) ht h2 7 0
 have hr:∀ t:List AV,t.length = 15→t[2]? = some (.ref 1 0)→EvCall E (.fn (.func 357) [] [.ref 2 0]) [.fn (.yield 3) [] []] (rh (dC d) (rec339 t)) =
   some (.ret (.tuple []),if dOk d then rh (dC d) (rec339 t) else rh (dC d) (.loop .done (some .ret) t [7,8] a339_0 b339_0)):=by
  intro t ht h2
  rw [EvCall_open H.c357 rfl,EvFn_eq]
  have h:=fun F hF=>hrun t ht h2 F (by omega) hF
  simp only [List.drop_zero,Int.natCast_zero] at h
  generalize dC d = A at *
  cases hk:dOk d with
  | true=>
   rw [hk] at h
   simp [f357,start,hlen,htk]
   rw [h _ (by simp [s357_0])]
   simp [x357_0]
  | false=>
   rw [hk] at h
   simp [f357,start,hlen,htk]
   rw [h _ (by simp [s357_0])]
   simp [r357]
 generalize dC d = A at *
 simp [f339,start,hlen,htk,hcall]
 rw [EvCode_rangeFunc (j:=357) (first:=[]) (caps:=[.ref 2 0]) rfl (by simp)]
 rw [show ∀ (t:List AV),((((heap0.push (.cells A)).push (.cells [.bool false])).push (.cells A)).push (.loop .ready none t [7,8] a339_0 b339_0)) = rh A (rec339 t) from fun t=>rfl]
 simp
 rw [hr _ rfl rfl]
 cases dOk d <;> simp [endRange,push_setk,push_setl]
end Go.Pv
/- The program's dims: power by power. Conditions: the functions' codes; theorems. -/
namespace Go.Pv
variable {E:Env}
abbrev h3 (x y z:ABlk):AHeap:=((heap0.push x).push y).push z
def d0:List Int:=[0,0,0,0,0,0,0]
set_option maxRecDepth 20000 in
set_option maxHeartbeats 2000000 in
theorem each_yes (H:Has 338 E) {x0 x1 x2:ABlk} {V:AV} (d:List Int) (hd:d.length = 7) (hV:∀ (i:Nat) (h:i < d.length) (x y:ABlk),EvCall E V [.int .i64 i] (((h3 x0 x1 x2).still.push x).push y) = some (.ret (.int .i64 d[i]),((h3 x0 x1 x2).still.push x).push y)):
  EvCall E (.fn (.func 338) [] []) [.bool true,V] (h3 x0 x1 x2) = some (.ret (.tuple [.agg (dC (if dOk d then d else d0)),.bool (dOk d)]),h3 x0 x1 x2):=by
 rw [EvCall_reader H.c338 rfl,EvFn_eq]
 obtain ⟨a0,a1,a2,a3,a4,a5,a6,rfl⟩:∃ a0 a1 a2 a3 a4 a5 a6,d = [a0,a1,a2,a3,a4,a5,a6]:=by
  match d,hd with
  | [a0,a1,a2,a3,a4,a5,a6],_=>exact ⟨a0,a1,a2,a3,a4,a5,a6,rfl⟩
 have e0:=hV 0 (by simp)
 have e1:=hV 1 (by simp)
 have e2:=hV 2 (by simp)
 have e3:=hV 3 (by simp)
 have e4:=hV 4 (by simp)
 have e5:=hV 5 (by simp)
 have e6:=hV 6 (by simp)
 clear hV
 have hr:=dims_right (H.to 339) (d:=[a0,a1,a2,a3,a4,a5,a6]) rfl
 have w1:IntKind.i64.wrap 1 = 1:=w64
 have w2:IntKind.i64.wrap 2 = 2:=w64
 have w3:IntKind.i64.wrap 3 = 3:=w64
 have w4:IntKind.i64.wrap 4 = 4:=w64
 have w5:IntKind.i64.wrap 5 = 5:=w64
 have w6:IntKind.i64.wrap 6 = 6:=w64
 have w7:IntKind.i64.wrap 7 = 7:=w64
 simp [-getElem?_pos] at e0 e1 e2 e3 e4 e5 e6
 cases hk:dOk [a0,a1,a2,a3,a4,a5,a6] with
 | true=>
  rw [hk] at hr
  simp only [dC,List.map_cons,List.map_nil] at hr ⊢
  simp [f338,start,EvCode_loop,l338_0,e0,e1,e2,e3,e4,e5,e6,w1,w2,w3,w4,w5,w6,w7,EvCall_closed H.c339 rfl,hr,push_setk,push_setl]
 | false=>
  rw [hk] at hr
  simp only [dC,List.map_cons,List.map_nil,d0] at hr ⊢
  simp [f338,start,EvCode_loop,l338_0,e0,e1,e2,e3,e4,e5,e6,w1,w2,w3,w4,w5,w6,w7,EvCall_closed H.c339 rfl,hr,push_setk,push_setl]
end Go.Pv
