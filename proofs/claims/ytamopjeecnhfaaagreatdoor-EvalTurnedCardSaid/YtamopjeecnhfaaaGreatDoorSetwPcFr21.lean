/- A part of the proof: functions of the program in the evaluator's code, and what they come to. Conditions: none; definitions and theorems that the statement's proof uses. -/
import Derived.Test.YtamopjeecnhfaaaGreatDoorSetwPcFr19
/- The reference's fractions: Right, Make, Mul, Div. Conditions: the functions' codes; theorems. -/
namespace Go.Pv
variable {E:Env}
def prodR (x y:Lo) (ten:Int):Except Int Fc:=match timesL x y with | none=>.error 10 | some z=>formR z ten
theorem formR_in {x:Lo} {ten:Int} (h1:-2000 ≤ ten) (h2:ten ≤ 2000):formR x ten = overE (formL x ten):=by
 unfold formR
 rw [if_neg (by omega)]
theorem prodR_in {x y:Lo} {ten:Int} (h1:-2000 ≤ ten) (h2:ten ≤ 2000):prodR x y ten = prodL x y ten:=by
 unfold prodR prodL
 cases timesL x y with
 | none=>rfl
 | some z=>exact formR_in h1 h2
theorem gtF_shape (r:Except Int Fc):∃ (n d t e:Int),gtF r = .agg [.int .i64 n,.int .i64 d,.int .i64 t,.int .i64 e]∧gtC r = [.int .i64 n,.int .i64 d,.int .i64 t,.int .i64 e]:=by
 cases r with
 | ok f=>exact ⟨f.num,f.den,f.ten,0,rfl,rfl⟩
 | error e=>exact ⟨0,0,0,e,rfl,rfl⟩
set_option maxRecDepth 20000 in
set_option maxHeartbeats 1000000 in
theorem times319 (H:Has 319 E) {x y:Lo} (hx:LoOk x) (hy:LoOk y) (x2:x.two.natAbs ≤ 500000) (x5:x.five.natAbs ≤ 500000) (y2:y.two.natAbs ≤ 500000) (y5:y.five.natAbs ≤ 500000) {ten:Int} (ht:ten.natAbs ≤ 1000000):
  EvClosed E (.fn (.func 319) [] []) [.agg (loR x),.agg (loR y),.int .i64 ten] = some (gtF (prodR x y ten)):=by
 rw [EvClosed_eq H.c319 rfl (vs:=[.agg (loR x),.agg (loR y),.int .i64 ten]) (by simp [loR]),EvFn_eq]
 have hf:∀ z,timesL x y = some z→EvClosed E (.fn (.func 324) [] []) [.agg (loR z),.int .i64 ten] = some (gtF (formR z ten)):=fun z hz=>by
  obtain ⟨e3,e4⟩:=timesL_te hz
  exact form324 (H.to 324) (timesL_ok hx hy hz) (by omega) (by omega) ht
 have a1:=hx.pt
 have a2:=hx.qt
 have a3:=hy.pt
 have a4:=hy.qt
 have b1:=hx.p0
 have b3:=hy.p0
 have hs:=st_pm hx.s hy.s
 have q1:=gcd342 (H.to 342) (a:=(x.p:Int)) (b:=(y.q:Int)) (by omega) (by omega)
 have q2:=gcd342 (H.to 342) (a:=(y.p:Int)) (b:=(x.q:Int)) (by omega) (by omega)
 rw [Int.natAbs_natCast,Int.natAbs_natCast] at q1 q2
 have g0:0 < Nat.gcd x.p y.q:=Nat.gcd_pos_of_pos_left _ b1
 have h0:0 < Nat.gcd y.p x.q:=Nat.gcd_pos_of_pos_left _ b3
 unfold prodR
 unfold timesL at hf ⊢
 obtain ⟨s,p,q,two,five⟩:=x
 obtain ⟨t,P,Q,Two,Five⟩:=y
 dsimp only at *
 have c1:((p:Int)).tdiv (Nat.gcd p Q:Nat) = ((p / Nat.gcd p Q:Nat):Int):=Int.ofNat_tdiv p _ |>.symm
 have c2:((P:Int)).tdiv (Nat.gcd P q:Nat) = ((P / Nat.gcd P q:Nat):Int):=Int.ofNat_tdiv P _ |>.symm
 have c3:((q:Int)).tdiv (Nat.gcd P q:Nat) = ((q / Nat.gcd P q:Nat):Int):=Int.ofNat_tdiv q _ |>.symm
 have c4:((Q:Int)).tdiv (Nat.gcd p Q:Nat) = ((Q / Nat.gcd p Q:Nat):Int):=Int.ofNat_tdiv Q _ |>.symm
 have l1:=Nat.div_le_self p (Nat.gcd p Q)
 have l2:=Nat.div_le_self P (Nat.gcd P q)
 have l3:=Nat.div_le_self q (Nat.gcd P q)
 have l4:=Nat.div_le_self Q (Nat.gcd p Q)
 generalize Nat.gcd p Q = g at *
 generalize Nat.gcd P q = k at *
 generalize p / g = A at *
 generalize P / k = B at *
 generalize q / k = C at *
 generalize Q / g = D at *
 have m1:=mulN (H.to 343) (a:=A) (b:=B) (by omega) (by omega)
 have m2:=mulN (H.to 343) (a:=C) (b:=D) (by omega) (by omega)
 have w1:IntKind.i64.wrap (A:Int) = A:=w64
 have w2:IntKind.i64.wrap (B:Int) = B:=w64
 have w3:IntKind.i64.wrap (C:Int) = C:=w64
 have w4:IntKind.i64.wrap (D:Int) = D:=w64
 have r3:IntKind.i64.wrap (two + Two) = two + Two:=w64
 have r4:IntKind.i64.wrap (five + Five) = five + Five:=w64
 have r5:IntKind.i64.wrap (s * t) = s * t:=w64
 have gz:¬ g = 0:=by omega
 have kz:¬ k = 0:=by omega
 generalize A * B = U at *
 generalize C * D = V at *
 by_cases h1:U ≤ 9223372036854775807
 ·by_cases h2:V ≤ 9223372036854775807
  ·have hf:=hf _ (if_pos ⟨h1,h2⟩)
   rw [if_pos ⟨h1,h2⟩]
   dsimp only
   obtain ⟨u1,u2,u3,u4,u5,_⟩:=gtF_shape (formR ⟨s * t,U,V,two + Two,five + Five⟩ ten)
   rw [u5] at hf ⊢
   simp only [h1,h2,if_true,decide_true] at m1 m2
   simp only [loR] at hf ⊢
   simp [f319,start,EvCall_closed H.c342 rfl,EvCall_closed H.c324 rfl,q1,q2,c1,c2,c3,c4,m1,m2,hf,w1,w2,w3,w4,r3,r4,r5,gz,kz,push_setk,push_setl]
  ·simp only [h1,h2,if_true,if_false,decide_true,decide_false,and_false] at m1 m2 ⊢
   simp only [loR]
   simp [f319,start,EvCall_closed H.c342 rfl,q1,q2,c1,c2,c3,c4,m1,m2,w1,w2,w3,w4,gz,kz,push_setk,push_setl,gtF,gtC]
 ·simp only [h1,if_false,decide_false,false_and] at m1 ⊢
  generalize (if V ≤ 9223372036854775807 then (V:Int) else 0) = v at m2
  generalize decide (V ≤ 9223372036854775807) = w at m2
  simp only [loR]
  simp [f319,start,EvCall_closed H.c342 rfl,q1,q2,c1,c2,c3,c4,m1,m2,w1,w2,w3,w4,gz,kz,push_setk,push_setl,gtF,gtC]
set_option maxRecDepth 20000 in
theorem right318 (H:Has 318 E) {f:Fc} (hf:FcOk f):EvClosed E (.fn (.func 318) [] []) [fcA f] = some (.bool true):=by
 rw [EvClosed_eq H.c318 rfl (vs:=[fcA f]) (by simp [fcA,fcC]),EvFn_eq]
 obtain ⟨num,den,ten⟩:=f
 have z1:=fits323 (H.to 323) num
 by_cases h0:num = 0
 ·obtain ⟨h1,h2⟩:=hf.zero h0
  dsimp only at h1 h2
  subst h0 h1 h2
  rw [decide_eq_true (by omega)] at z1
  simp [f318,start,fcA,fcC,EvCall_closed H.c323 rfl,z1]
 ·have h1:=hf.nt
  have h2:=hf.d2
  have h3:=hf.d5
  have h4:=hf.n10 h0
  have h5:=hf.co h0
  have h6:=hf.t0
  have h7:=hf.t1
  have h8:=hf.d0
  have h9:=hf.dt
  dsimp only at h1 h2 h3 h4 h5 h6 h7 h8 h9
  have z0:(num == 0) = false:=by simpa using h0
  rw [decide_eq_true (by omega)] at z1
  have z2:=gcd342 (H.to 342) (a:=num) (b:=(den:Int)) h1 (by omega)
  rw [Int.natAbs_natCast,show Nat.gcd num.natAbs den = 1 from h5] at z2
  have z3:((den:Int).tmod 2 != 0) = true:=by
   rw [show (den:Int).tmod 2 = ((den % 2:Nat):Int) from (Int.ofNat_tmod den 2).symm]
   simp; omega
  have z4:((den:Int).tmod 5 != 0) = true:=by
   rw [show (den:Int).tmod 5 = ((den % 5:Nat):Int) from (Int.ofNat_tmod den 5).symm]
   simp; omega
  have z5:(num.tmod 10 != 0) = true:=by
   have:(num.tmod 10).natAbs = num.natAbs % 10:=Int.natAbs_tmod num 10
   simp; omega
  have z6:(1:Int) ≤ den:=by omega
  simp [f318,start,fcA,fcC,EvCall_closed H.c323 rfl,EvCall_closed H.c342 rfl,z0,z1,z2,z3,z4,z5,z6,h6,h7]
theorem make301 (H:Has 301 E) {num den ten:Int} (hn:num.natAbs ≤ 9223372036854775807) (hd:den.natAbs ≤ 9223372036854775807) (ht:ten.natAbs ≤ 1000000):
  EvClosed E (.fn (.func 301) [] []) [.int .i64 num,.int .i64 den,.int .i64 ten] = some (gtF (makeF num den ten)):=by
 rw [EvClosed_eq H.c301 rfl (vs:=[.int .i64 num,.int .i64 den,.int .i64 ten]) (by simp),EvFn_eq]
 have h1:=fits323 (H.to 323) num
 have h2:=fits323 (H.to 323) den
 rw [decide_eq_true (by omega)] at h1 h2
 unfold makeF
 by_cases d0:den = 0
 ·subst d0
  simp [f301,start,EvCall_closed H.c323 rfl,h1,h2,push_setk,gtF,gtC]
 ·have d0':(den == 0) = false:=by simpa using d0
  by_cases n0:num = 0
  ·subst n0
   simp [f301,start,EvCall_closed H.c323 rfl,h1,h2,push_setk,gtF,gtC,fcC,d0,d0']
  ·have n0':(num == 0) = false:=by simpa using n0
   have hl:=of320 (H.to 320) n0 d0 hn hd
   obtain ⟨k,kb⟩:=loosen_ok n0 d0 hn hd
   have hf:=form324 (H.to 324) k (by omega) (by omega) (ten:=ten) ht
   have e:(if ten < -2000∨2000 < ten then Except.error 10 else overE (formL (loosen num den) ten)) = formR (loosen num den) ten:=rfl
   rw [if_neg d0,if_neg n0,e]
   obtain ⟨u1,u2,u3,u4,u5,_⟩:=gtF_shape (formR (loosen num den) ten)
   rw [u5] at hf ⊢
   simp only [loR] at hl hf
   simp [f301,start,EvCall_closed H.c323 rfl,EvCall_closed H.c320 rfl,EvCall_closed H.c324 rfl,h1,h2,hl,hf,push_setk,d0',n0']
set_option maxRecDepth 20000 in
theorem mul298 (H:Has 298 E) {a b:Fc} (ha:FcOk a) (hb:FcOk b):EvClosed E (.fn (.func 298) [] []) [fcA a,fcA b] = some (gtF (mulF a b)):=by
 rw [EvClosed_eq H.c298 rfl (vs:=[fcA a,fcA b]) (by simp [fcA,fcC]),EvFn_eq]
 have h1:=right318 (H.to 318) ha
 have h2:=right318 (H.to 318) hb
 unfold mulF
 by_cases a0:a.num = 0
 ·simp only [fcA,fcC] at h1 h2 ⊢
  simp only [a0] at h1 ⊢
  simp [f298,start,EvCall_closed H.c318 rfl,h1,h2,push_setk,gtF,gtC,fcC]
 ·have a0':(a.num == 0) = false:=by simpa using a0
  by_cases b0:b.num = 0
  ·simp only [fcA,fcC] at h1 h2 ⊢
   simp only [b0] at h2 ⊢
   simp [f298,start,EvCall_closed H.c318 rfl,h1,h2,push_setk,gtF,gtC,fcC,a0,a0']
  ·have b0':(b.num == 0) = false:=by simpa using b0
   have ad:(a.den:Int) ≠ 0:=by have:=ha.d0; omega
   have bd:(b.den:Int) ≠ 0:=by have:=hb.d0; omega
   have l1:=of320 (H.to 320) a0 ad ha.nt (by have:=ha.dt; omega)
   have l2:=of320 (H.to 320) b0 bd hb.nt (by have:=hb.dt; omega)
   obtain ⟨k1,kb1⟩:=loosen_ok a0 ad ha.nt (by have:=ha.dt; omega)
   obtain ⟨k2,kb2⟩:=loosen_ok b0 bd hb.nt (by have:=hb.dt; omega)
   have t1:=ha.t0; have t2:=ha.t1; have t3:=hb.t0; have t4:=hb.t1
   have hp:=times319 (H.to 319) k1 k2 (by omega) (by omega) (by omega) (by omega) (ten:=a.ten + b.ten) (by omega)
   rw [prodR_in (by omega) (by omega)] at hp
   have w:IntKind.i64.wrap (a.ten + b.ten) = a.ten + b.ten:=w64
   obtain ⟨u1,u2,u3,u4,u5,_⟩:=gtF_shape (prodL (loosen a.num a.den) (loosen b.num b.den) (a.ten + b.ten))
   simp only [a0,b0,if_false,or_self,u5] at hp ⊢
   simp only [loR,fcA,fcC] at *
   simp [f298,start,EvCall_closed H.c318 rfl,h1,h2,l1,l2,hp,w,push_setk,a0',b0']
set_option maxRecDepth 20000 in
theorem div300 (H:Has 300 E) {a b:Fc} (ha:FcOk a) (hb:FcOk b):EvClosed E (.fn (.func 300) [] []) [fcA a,fcA b] = some (gtF (divF a b)):=by
 rw [EvClosed_eq H.c300 rfl (vs:=[fcA a,fcA b]) (by simp [fcA,fcC]),EvFn_eq]
 have h1:=right318 (H.to 318) ha
 have h2:=right318 (H.to 318) hb
 unfold divF
 by_cases b0:b.num = 0
 ·simp only [fcA,fcC] at h1 h2 ⊢
  simp only [b0] at h2 ⊢
  simp [f300,start,EvCall_closed H.c318 rfl,h1,h2,push_setk,gtF,gtC]
 ·have b0':(b.num == 0) = false:=by simpa using b0
  by_cases a0:a.num = 0
  ·obtain ⟨z1,z2⟩:=ha.zero a0
   simp only [fcA,fcC] at h1 h2 ⊢
   simp only [a0,z1,z2] at h1 ⊢
   simp only [show ((1:Nat):Int) = 1 from rfl] at h1 ⊢
   simp [f300,start,EvCall_closed H.c318 rfl,h1,h2,push_setk,gtF,gtC,fcC,a0,z1,z2,b0,b0']
  ·have a0':(a.num == 0) = false:=by simpa using a0
   have ad:(a.den:Int) ≠ 0:=by have:=ha.d0; omega
   have bd:(b.den:Int) ≠ 0:=by have:=hb.d0; omega
   have l1:=of320 (H.to 320) a0 ad ha.nt (by have:=ha.dt; omega)
   have l2:=of320 (H.to 320) b0 bd hb.nt (by have:=hb.dt; omega)
   obtain ⟨k1,kb1⟩:=loosen_ok a0 ad ha.nt (by have:=ha.dt; omega)
   obtain ⟨k2,kb2⟩:=loosen_ok b0 bd hb.nt (by have:=hb.dt; omega)
   have t1:=ha.t0; have t2:=ha.t1; have t3:=hb.t0; have t4:=hb.t1
   have hi:=turned322 (H.to 322) (x:=loosen b.num b.den) (by omega) (by omega)
   have i1:(invL (loosen b.num b.den)).two = -(loosen b.num b.den).two:=rfl
   have i2:(invL (loosen b.num b.den)).five = -(loosen b.num b.den).five:=rfl
   have hp:=times319 (H.to 319) k1 (invL_ok k2) (by omega) (by omega) (by omega) (by omega) (ten:=a.ten - b.ten) (by omega)
   rw [prodR_in (by omega) (by omega)] at hp
   have w:IntKind.i64.wrap (a.ten - b.ten) = a.ten - b.ten:=w64
   obtain ⟨u1,u2,u3,u4,u5,_⟩:=gtF_shape (prodL (loosen a.num a.den) (invL (loosen b.num b.den)) (a.ten - b.ten))
   simp only [a0,b0,if_false,u5] at hp ⊢
   clear i1 i2
   generalize invL (loosen b.num b.den) = v at *
   simp only [loR,fcA,fcC] at *
   simp [f300,start,EvCall_closed H.c318 rfl,h1,h2,l1,l2,hi,hp,w,push_setk,a0',b0']
end Go.Pv
/- The reference's fractions: Pow. Conditions: the functions' codes; theorems. -/
namespace Go.Pv
variable {E:Env}
theorem loosen_z {a:Fc} (ha:FcOk a) (h0:a.num ≠ 0):0 ≤ (loosen a.num a.den).two∧0 ≤ (loosen a.num a.den).five∧((loosen a.num a.den).two = 0∨(loosen a.num a.den).five = 0):=by
 have e3:two5 a.den = (0,0,a.den):=by
  have:=two5_is (a:=0) (b:=0) ha.d2 ha.d5 (by simp; have:=ha.dt; omega)
  simpa using this
 have A:=two5_spec (n:=a.num.natAbs) (by omega) ha.nt
 have h10:=ha.n10 h0
 have e1:(loosen a.num a.den).two = ((two5 a.num.natAbs).1:Int):=by unfold loosen; dsimp only; rw [Int.natAbs_natCast,e3]; simp
 have e2:(loosen a.num a.den).five = ((two5 a.num.natAbs).2.1:Int):=by unfold loosen; dsimp only; rw [Int.natAbs_natCast,e3]; simp
 rw [e1,e2]
 refine ⟨by omega,by omega,?_⟩
 have he:=A.eq
 generalize (two5 a.num.natAbs).1 = u at *
 generalize (two5 a.num.natAbs).2.1 = v at *
 generalize (two5 a.num.natAbs).2.2 = m at *
 cases u with
 | zero=>left; rfl
 | succ u=>
  cases v with
  | zero=>right; rfl
  | succ v=>
   exfalso
   apply h10
   rw [he]
   have:2 ^ (u + 1) * (5 ^ (v + 1) * m) = 10 * (2 ^ u * (5 ^ v * m)):=by
    rw [Nat.pow_succ,Nat.pow_succ]
    rw [show (10:Nat) = 2 * 5 from rfl]
    ac_rfl
   rw [this,Nat.mul_mod_right]
structure PowH (x:Lo) (T V:Int) (i:Nat) (h:AHeap):Prop where
 ro:h.ro = 0
 b1:h.bl 1 = some (.cells z4C)
 b2:h.bl 2 = some (.cells (loR x))
 b3:h.bl 3 = some (.cells [.int .i64 (x.s ^ i),.int .i64 (x.p ^ i:Nat),.int .i64 (x.q ^ i:Nat),.int .i64 T,.int .i64 V])
end Go.Pv
/- The reference's fractions: Pow. Conditions: the functions' codes; theorems. -/
namespace Go.Pv
variable {E:Env}
end Go.Pv
/- The reference's dims: Right, Add, Times. Conditions: the functions' codes; theorems. -/
namespace Go.Pv
variable {E:Env}
theorem dref_loop {d:List Int} (hd:d.length = 7):∀ (r i:Nat) (F:Fr),i + r = 7→mask k321_0 F = s321_0 (.ref 0 0) (.int .i64 i) →
  EvCode E (.loop k321_0 l321_0) F (heap0.push (.cells (dC d))) = some (if dOk (d.drop i) then (.exit 0,x321_0,heap0.push (.cells (dC d))) else (.ret,r321 (.bool false),heap0.push (.cells (dC d)))):=by
 intro r
 induction r with
 | zero=>
  intro i F hi hF
  have hi':i = 7:=by omega
  subst hi'
  rw [EvCode_loop,hF]
  have:d.drop 7 = []:=List.drop_eq_nil_of_le (by omega)
  rw [this]
  simp [l321_0,s321_0,x321_0,dOk]
 | succ r ih=>
  intro i F hi hF
  have hlt:i < d.length:=by omega
  have hw:IntKind.i64.wrap ((i:Int) + 1) = ((i + 1:Nat):Int):=w64
  have h7:(i:Int) < 7:=by omega
  have hA:((dC d).drop i).take 1 = [.int .i64 d[i]]:=dC_at hlt
  have hlen:(dC d).length = 7:=by rw [dC_len,hd]
  have ih':=ih (i + 1)
  rw [EvCode_loop,hF]
  rw [List.drop_eq_getElem_cons hlt]
  generalize EvCode E (.loop k321_0 l321_0) = lp at ih' ⊢
  generalize hx:d[i] = x at *
  have h71:i + 1 ≤ 7:=by omega
  by_cases o1:x < -99
  ·have e:dOk (x :: d.drop (i + 1)) = false:=by simp [dOk,dOk1]; omega
   rw [e]
   generalize dC d = A at *
   simp [l321_0,s321_0,h7,hlen,hA,h71,o1,r321]
  ·by_cases o2:99 < x
   ·have e:dOk (x :: d.drop (i + 1)) = false:=by simp [dOk,dOk1]; omega
    rw [e]
    generalize dC d = A at *
    simp [l321_0,s321_0,h7,hlen,hA,h71,o1,o2,r321]
   ·have e:dOk (x :: d.drop (i + 1)) = dOk (d.drop (i + 1)):=by
     have:dOk1 x = true:=by simp [dOk1]; omega
     simp [dOk,this]
    rw [e]
    generalize dC d = A at *
    simp [l321_0,s321_0,h7,hlen,hA,hw,h71,o1,o2]
    exact ih' _ (by omega) (by simp [s321_0])
theorem dref_right (H:Has 321 E) {d:List Int} (hd:d.length = 7):EvClosed E (.fn (.func 321) [] []) [.agg (dC d)] = some (.bool (dOk d)):=by
 rw [EvClosed_eq H.c321 rfl (vs:=[.agg (dC d)]) (by simp [shutL_dC]),EvFn_eq]
 have hlen:(dC d).length = 7:=by rw [dC_len,hd]
 have hl:=fun F hF=>dref_loop (E:=E) hd 7 0 F (by omega) hF
 simp only [List.drop_zero,Int.natCast_zero] at hl
 generalize dC d = A at *
 cases hk:dOk d with
 | true=>
  rw [hk] at hl
  simp [f321,start,hlen]
  rw [hl _ (by simp [s321_0])]
  simp [x321_0]
 | false=>
  rw [hk] at hl
  simp [f321,start,hlen]
  rw [hl _ (by simp [s321_0])]
  simp [r321]
def gtD (d:List Int):AV:=.agg (dC (if dOk d then d else d0)++[.bool (dOk d)])
abbrev z8C:List AV:=[.int .i64 0,.int .i64 0,.int .i64 0,.int .i64 0,.int .i64 0,.int .i64 0,.int .i64 0,.bool false]
abbrev h4 (x y z u:ABlk):AHeap:=(((heap0.push x).push y).push z).push u
theorem dC_set (w:List Int) (i:Nat) (v:Int):(dC w).set i (.int .i64 v) = dC (w.set i v):=by
 unfold dC
 rw [List.map_set]
structure UpTo (v w:List Int) (i:Nat):Prop where
 len:w.length = v.length
 lo:∀ j,j < i→w[j]? = v[j]?
 hi:∀ j,i ≤ j→j < v.length→w[j]? = some 0
theorem UpTo.next {v w:List Int} {i:Nat} (h:UpTo v w i) (hi:i < v.length):UpTo v (w.set i v[i]) (i + 1):=by
 refine ⟨by simp [h.len],fun j hj=>?_,fun j hj hv=>?_⟩
 ·rw [List.getElem?_set]
  by_cases hji:i = j
  ·subst hji; simp [h.len,hi]
  ·rw [if_neg hji]; exact h.lo j (by omega)
 ·rw [List.getElem?_set,if_neg (by omega)]
  exact h.hi j (by omega) hv
theorem UpTo.same {v w:List Int} {i:Nat} (h:UpTo v w i) (hi:i < v.length) (hz:v[i] = 0):UpTo v w (i + 1):=by
 refine ⟨h.len,fun j hj=>?_,fun j hj hv=>h.hi j (by omega) hv⟩
 by_cases hji:i = j
 ·subst hji; rw [h.hi i (by omega) hi,List.getElem?_eq_getElem hi,hz]
 ·exact h.lo j (by omega)
theorem UpTo.all {v w:List Int} (h:UpTo v w v.length):w = v:=by
 apply List.ext_getElem? 
 intro j
 by_cases hj:j < v.length
 ·exact h.lo j hj
 ·rw [List.getElem?_eq_none (by rw [h.len]; omega),List.getElem?_eq_none (by omega)]
theorem dref_add_loop {a b:List Int} (ha:a.length = 7) (hb:b.length = 7) (oa:dOk a = true) (ob:dOk b = true) {n:Int} (hn:n = 1∨n = -1) {v:List Int} (hv:v.length = 7) (hva:∀ i (h:i < 7),v[i] = a[i] + n * b[i]):∀ (r i:Nat) (w:List Int) (F:Fr),i + r = 7→UpTo v w i →
  mask k299_0 F = s299_0 (.int .i64 n) (.ref 0 0) (.ref 1 0) (.ref 2 0) (.ref 3 0) (.int .i64 i) →
  EvCode E (.loop k299_0 l299_0) F (h4 (.cells (dC a)) (.cells (dC b)) (.cells z8C) (.cells (dC w))) = some (.exit 0,x299_0 (.ref 2 0) (.ref 3 0),h4 (.cells (dC a)) (.cells (dC b)) (.cells z8C) (.cells (dC v))):=by
 intro r
 induction r with
 | zero=>
  intro i w F hi hu hF
  have hi':i = 7:=by omega
  subst hi'
  rw [← hv] at hu
  have:=hu.all
  subst this
  rw [EvCode_loop,hF]
  simp [l299_0,s299_0,x299_0]
 | succ r ih=>
  intro i w F hi hu hF
  have hlt:i < 7:=by omega
  have hw:IntKind.i64.wrap ((i:Int) + 1) = ((i + 1:Nat):Int):=w64
  have h7:(i:Int) < 7:=by omega
  have e1:=dC_at (d:=a) (i:=i) (by omega)
  have e2:=dC_at (d:=b) (i:=i) (by omega)
  have r1:=dOk_get oa (i:=i) (by omega)
  have r2:=dOk_get ob (i:=i) (by omega)
  have l1:(dC a).length = 7:=by rw [dC_len,ha]
  have l2:(dC b).length = 7:=by rw [dC_len,hb]
  have l3:(dC w).length = 7:=by rw [dC_len,hu.len,hv]
  have hvi:=hva i hlt
  have ih':=fun F hF=>ih (i + 1) _ F (by omega) (hu.next (by omega)) hF
  have hds:=dC_set w i v[i]
  have h71:i + 1 ≤ 7:=by omega
  rw [EvCode_loop,hF]
  rw [← hds] at ih'
  rw [hvi] at ih'
  generalize EvCode E (.loop k299_0 l299_0) = lp at ih' ⊢
  generalize a[i] = x at *
  generalize b[i] = y at *
  have hny:n * y = y∨n * y = -y:=by rcases hn with h | h <;> subst h <;> simp
  have w1:IntKind.i64.wrap (n * y) = n * y:=w64
  have w2:IntKind.i64.wrap (x + n * y) = x + n * y:=w64
  clear hds hvi hva hu oa ob
  generalize dC a = A at *
  generalize dC b = B at *
  generalize dC w = W at *
  simp [l299_0,s299_0,h7,l1,l2,l3,e1,e2,hw,h71,w1,w2,push_setk]
  exact ih' _ (by simp [s299_0])
end Go.Pv
/- The reference's dims: Add, Times. Conditions: the functions' codes; theorems. -/
namespace Go.Pv
variable {E:Env}
theorem upTo_0 {v:List Int} (hv:v.length = 7):UpTo v d0 0:=by
 refine ⟨by rw [hv]; rfl,fun j hj=>by omega,fun j _ hj=>?_⟩
 rw [hv] at hj
 have:j = 0∨j = 1∨j = 2∨j = 3∨j = 4∨j = 5∨j = 6:=by omega
 rcases this with h | h | h | h | h | h | h <;> subst h <;> rfl
theorem dC_d0:dC d0 = [.int .i64 0,.int .i64 0,.int .i64 0,.int .i64 0,.int .i64 0,.int .i64 0,.int .i64 0]:=rfl
set_option maxRecDepth 20000 in
theorem add299 (H:Has 299 E) {a b:List Int} (ha:a.length = 7) (hb:b.length = 7) (oa:dOk a = true) (ob:dOk b = true) {n:Int} (hn:n = 1∨n = -1) {v:List Int} (hv:v.length = 7) (hva:∀ i (h:i < 7),v[i] = a[i] + n * b[i]):
  EvClosed E (.fn (.func 299) [] []) [.agg (dC a),.agg (dC b),.int .i64 n] = some (gtD v):=by
 rw [EvClosed_eq H.c299 rfl (vs:=[.agg (dC a),.agg (dC b),.int .i64 n]) (by simp [shutL_dC]),EvFn_eq]
 have l1:(dC a).length = 7:=by rw [dC_len,ha]
 have l2:(dC b).length = 7:=by rw [dC_len,hb]
 have t1:(dC a).take 7 = dC a:=List.take_of_length_le (by omega)
 have t2:(dC b).take 7 = dC b:=List.take_of_length_le (by omega)
 have q1:=dref_right (H.to 321) ha
 have q2:=dref_right (H.to 321) hb
 rw [oa] at q1
 rw [ob] at q2
 have q3:=dref_right (H.to 321) hv
 have hl:=fun F hF=>dref_add_loop (E:=E) ha hb oa ob hn hv hva 7 0 d0 F (by omega) (upTo_0 hv) hF
 rw [dC_d0] at hl
 simp only [Int.natCast_zero] at hl
 obtain ⟨a0,a1,a2,a3,a4,a5,a6,rfl⟩:=seven hv
 clear hva
 generalize dC a = A at *
 generalize dC b = B at *
 unfold gtD
 cases hk:dOk [a0,a1,a2,a3,a4,a5,a6] with
 | true=>
  rw [hk] at q3
  simp only [dC,List.map_cons,List.map_nil] at q3 hl ⊢
  simp [f299,start,l1,l2,t1,t2,EvCall_closed H.c321 rfl,q1,q2,push_setk]
  rw [hl _ (by simp [s299_0])]
  simp [x299_0,EvCall_closed H.c321 rfl,q3,push_setk,push_setl]
 | false=>
  rw [hk] at q3
  simp only [dC,List.map_cons,List.map_nil] at q3 hl ⊢
  simp [f299,start,l1,l2,t1,t2,EvCall_closed H.c321 rfl,q1,q2,push_setk]
  rw [hl _ (by simp [s299_0])]
  simp [x299_0,EvCall_closed H.c321 rfl,q3,push_setk,push_setl,d0]
end Go.Pv
