/- A part of the proof: functions of the program in the evaluator's code, and what they come to. Conditions: none; definitions and theorems that the statement's proof uses. -/
import Derived.Test.YtamopjeecnhfaaaGreatDoorSetwPcFr2
/- The program's fractions: taking twos and fives out. Conditions: the functions' codes; theorems. -/
namespace Go.Pv
variable {E:Env}
def loC (x:Lo):List AV:=[.int .i64 (x.s * x.p),.int .i64 x.q,.int .i64 x.two,.int .i64 x.five]
def loA (x:Lo):AV:=.agg (loC x)
theorem sN {n:Int} (h:n ≠ 0):∃ (s:Int) (N:Nat),(s = 1∨s = -1)∧0 < N∧n = s * N∧n.sign = s∧n.natAbs = N:=
 ⟨n.sign,n.natAbs,sign_pm h,by omega,(Int.sign_mul_natAbs n).symm,rfl,rfl⟩
theorem tdiv_neg1 (s:Int) (hs:s = 1∨s = -1) (a g:Nat):(s * (a:Int)).tdiv (-(g:Int)) = s * -1 * ((a / g:Nat):Int):=by
 rw [Int.tdiv_neg,s_tdiv hs,Int.mul_neg_one,Int.neg_mul]
theorem spl_le {p m:Nat} (hp:2 ≤ p) (hm:0 < m) (ht:m ≤ 9223372036854775807):0 < (spl p m).2∧(spl p m).2 ≤ 9223372036854775807∧(spl p m).1 < 64:=by
 obtain ⟨_,_,c,d,e⟩:=spl_spec hp hm ht
 exact ⟨d,by omega,c⟩
set_option maxRecDepth 20000 in
set_option maxHeartbeats 1000000 in
theorem loosen327 (H:Has 327 E) {n d:Int} (hn:n ≠ 0) (hd:d ≠ 0) (hn':n.natAbs ≤ 9223372036854775807) (hd':d.natAbs ≤ 9223372036854775807):
  EvClosed E (.fn (.func 327) [] []) [.int .i64 n,.int .i64 d] = some (loA (loosen n d)):=by
 obtain ⟨s,N,hs,hN,en,es,ea⟩:=sN hn
 obtain ⟨t,D,ht,hD,ed,et,eb⟩:=sN hd
 have hlo:loosen n d = ⟨s * t,(two5 N).2.2 / Nat.gcd (two5 N).2.2 (two5 D).2.2,(two5 D).2.2 / Nat.gcd (two5 N).2.2 (two5 D).2.2,((two5 N).1:Int) - (two5 D).1,((two5 N).2.1:Int) - (two5 D).2.1⟩:=by
  unfold loosen; rw [es,et,ea,eb]
 rw [hlo]
 rw [ea] at hn'
 rw [eb] at hd'
 clear hlo es et ea eb hn hd
 subst en ed
 rw [EvClosed_eq H.c327 rfl (vs:=[.int .i64 (s * N),.int .i64 (t * D)]) (by simp),EvFn_eq]
 have hv:=H.v9
 simp only [globAll,g9] at hv
 have q1:=split347 (H.to 347) hs (p:=2) (by omega) hN hn'
 have q2:=split347 (H.to 347) ht (p:=2) (by omega) hD hd'
 obtain ⟨a1,a2,a3⟩:=spl_le (p:=2) (by omega) hN hn'
 obtain ⟨b1,b2,b3⟩:=spl_le (p:=2) (by omega) hD hd'
 have q3:=split347 (H.to 347) hs (p:=5) (by omega) a1 a2
 have q4:=split347 (H.to 347) ht (p:=5) (by omega) b1 b2
 obtain ⟨c1,c2,c3⟩:=spl_le (p:=5) (by omega) a1 a2
 obtain ⟨d1,d2,d3⟩:=spl_le (p:=5) (by omega) b1 b2
 have k2:((2:Nat):Int) = 2:=rfl
 have k5:((5:Nat):Int) = 5:=rfl
 rw [k2] at q1 q2
 rw [k5] at q3 q4
 unfold two5
 dsimp only
 generalize spl 2 N = u at *
 generalize spl 2 D = v at *
 generalize spl 5 u.2 = w at *
 generalize spl 5 v.2 = x at *
 obtain ⟨u1,u2⟩:=u
 obtain ⟨v1,v2⟩:=v
 obtain ⟨w1,w2⟩:=w
 obtain ⟨x1,x2⟩:=x
 dsimp only at *
 have n1:=s_abs hs w2
 have n2:=s_abs ht x2
 have q5:=gcd345 (H.to 345) (a:=s * w2) (b:=t * x2) (by omega) (by omega)
 rw [n1,n2] at q5
 have g1:Nat.gcd w2 x2 ≤ 9223372036854775807:=Nat.le_trans (Nat.gcd_le_left _ c1) c2
 have g2:0 < Nat.gcd w2 x2:=Nat.gcd_pos_of_pos_left _ c1
 have le1:=Nat.div_le_self w2 (Nat.gcd w2 x2)
 have le2:=Nat.div_le_self x2 (Nat.gcd w2 x2)
 have e1:=s_tdiv hs w2 (Nat.gcd w2 x2)
 have e2:=s_tdiv ht x2 (Nat.gcd w2 x2)
 have e3:=tdiv_neg1 s hs w2 (Nat.gcd w2 x2)
 have e4:=tdiv_neg1 t ht x2 (Nat.gcd w2 x2)
 have f1:=s_w64 hs (m:=w2 / Nat.gcd w2 x2) (by omega)
 have f2:=s_w64 ht (m:=x2 / Nat.gcd w2 x2) (by omega)
 have hst:s * -1 = 1∨s * -1 = -1:=by rcases hs with h | h <;> subst h <;> simp
 have f3:=s_w64 hst (m:=w2 / Nat.gcd w2 x2) (by omega)
 generalize Nat.gcd w2 x2 = g at *
 generalize w2 / g = W at *
 generalize x2 / g = Q at *
 have f4:IntKind.i64.wrap (Q:Int) = Q:=w64
 have r1:IntKind.i64.wrap ((u1:Int) - v1) = (u1:Int) - v1:=w64
 have r2:IntKind.i64.wrap ((w1:Int) - x1) = (w1:Int) - x1:=w64
 have r3:IntKind.i64.wrap (-(g:Int)) = -(g:Int):=w64
 have r4:IntKind.i64.wrap 1 = 1:=w64
 have r5:IntKind.i64.wrap 2 = 2:=w64
 have g0:¬ g = 0:=by omega
 rcases ht with h | h
 ·subst h
  simp only [Int.one_mul,Int.mul_one] at *
  have hx:¬ (x2:Int) < 0:=by omega
  generalize s * (N:Int) = z1 at *
  generalize s * (u2:Int) = z2 at *
  generalize s * (w2:Int) = z3 at *
  generalize h4:s * (W:Int) = z4 at *
  simp [f327,start,EvCode_loop,l327_0,EvCall_closed H.c347 rfl,EvCall_closed H.c345 rfl,hv,q1,q2,q3,q4,q5,push_setk,r1,r2,r4,r5,hx,g0,e1,e2,f1,f4,loA,loC]
  exact h4.symm
 ·subst h
  have hx:(-1:Int) * (x2:Int) < 0:=by omega
  have e5:(-1:Int) * -1 * (Q:Int) = Q:=by omega
  rw [e5] at e4
  generalize s * (N:Int) = z1 at *
  generalize s * (u2:Int) = z2 at *
  generalize s * (w2:Int) = z3 at *
  generalize h4:s * -1 * (W:Int) = z4 at *
  generalize (-1) * (D:Int) = z5 at *
  generalize (-1) * (v2:Int) = z6 at *
  generalize (-1) * (x2:Int) = z7 at *
  simp [f327,start,EvCode_loop,l327_0,EvCall_closed H.c347 rfl,EvCall_closed H.c345 rfl,hv,q1,q2,q3,q4,q5,push_setk,r1,r2,r3,r4,r5,hx,g0,e3,e4,f3,f4,loA,loC]
  rw [← h4,Int.mul_neg_one]
end Go.Pv
/- The program's fractions: products and inverses of loose numbers. Conditions: the functions' codes; theorems. -/
namespace Go.Pv
variable {E:Env}
theorem invL_eq (H:Has 337 E) {x:Lo} (hx:LoOk x) (h2:x.two.natAbs ≤ 1000000) (h5:x.five.natAbs ≤ 1000000):
  EvClosed E (.fn (.func 337) [] []) [loA x] = some (loA (invL x)):=by
 rw [EvClosed_eq H.c337 rfl (vs:=[loA x]) (by simp [loA,loC]),EvFn_eq]
 obtain ⟨s,p,q,two,five⟩:=x
 have hs:=hx.s
 have hp:=hx.p0
 have hq:=hx.q0
 have hpt:=hx.pt
 have hqt:=hx.qt
 dsimp only at hs hp hq hpt hqt h2 h5
 have r1:IntKind.i64.wrap 1 = 1:=w64
 have r2:IntKind.i64.wrap 2 = 2:=w64
 have r3:IntKind.i64.wrap (-two) = -two:=w64
 have r4:IntKind.i64.wrap (-five) = -five:=w64
 rcases hs with h | h
 ·subst h
  have hn:¬ (p:Int) < 0:=by omega
  simp [f337,start,EvCode_loop,l337_0,loA,loC,invL,push_setk,r1,r2,r3,r4,hn]
 ·subst h
  have hn:0 < p:=hp
  have r5:IntKind.i64.wrap (-(q:Int)) = -(q:Int):=w64
  have r6:IntKind.i64.wrap (p:Int) = (p:Int):=w64
  simp [f337,start,EvCode_loop,l337_0,loA,loC,invL,push_setk,r1,r2,r3,r4,r5,r6,hn]
theorem mul_s {s t:Int} {a b:Nat}:s * (a:Int) * (t * (b:Int)) = s * t * ((a * b:Nat):Int):=by
 rw [Int.natCast_mul,Int.mul_assoc,Int.mul_assoc,Int.mul_left_comm (a:Int)]
theorem st_pm {s t:Int} (hs:s = 1∨s = -1) (ht:t = 1∨t = -1):s * t = 1∨s * t = -1:=by
 rcases hs with h | h <;> rcases ht with h' | h' <;> rw [h,h'] <;> simp
theorem mulS (H:Has 350 E) {s t:Int} (hs:s = 1∨s = -1) (ht:t = 1∨t = -1) {a b:Nat} (ha:a ≤ 9223372036854775807) (hb:b ≤ 9223372036854775807):
  EvClosed E (.fn (.func 350) [] []) [.int .i64 (s * a),.int .i64 (t * b)] = some (.tuple [.int .i64 (if a * b ≤ 9223372036854775807 then s * t * (a * b:Nat) else 0),.bool (decide (a * b ≤ 9223372036854775807))]):=by
 have h1:=s_abs hs a
 have h2:=s_abs ht b
 have h3:=s_abs (st_pm hs ht) (a * b)
 by_cases h:a * b ≤ 9223372036854775807
 ·have:=mul350_yes H (a:=s * a) (b:=t * b) (by omega) (by omega) (by rw [mul_s,h3]; exact h)
  rw [this,mul_s]
  simp [h]
 ·have:=mul350_no H (a:=s * a) (b:=t * b) (by omega) (by omega) (by rw [mul_s,h3]; omega)
  rw [this]
  simp [h]
set_option maxRecDepth 20000 in
set_option maxHeartbeats 1000000 in
theorem times346 (H:Has 346 E) {x y:Lo} (hx:LoOk x) (hy:LoOk y) (x2:x.two.natAbs ≤ 1000000) (x5:x.five.natAbs ≤ 1000000) (y2:y.two.natAbs ≤ 1000000) (y5:y.five.natAbs ≤ 1000000):
  ∃ u d:Int,EvClosed E (.fn (.func 346) [] []) [loA x,loA y] = some (.tuple [.agg [.int .i64 u,.int .i64 d,.int .i64 (x.two + y.two),.int .i64 (x.five + y.five)],.bool (timesL x y).isSome]) ∧
   ∀ z,timesL x y = some z→u = z.s * z.p∧d = z.q:=by
 rw [EvClosed_eq H.c346 rfl (vs:=[loA x,loA y]) (by simp [loA,loC]),EvFn_eq]
 obtain ⟨s,p,q,two,five⟩:=x
 obtain ⟨t,P,Q,Two,Five⟩:=y
 have hs:=hx.s
 have ht:=hy.s
 have a1:=hx.pt
 have a2:=hx.qt
 have a3:=hy.pt
 have a4:=hy.qt
 have b1:=hx.p0
 have b2:=hx.q0
 have b3:=hy.p0
 have b4:=hy.q0
 dsimp only at hs ht a1 a2 a3 a4 b1 b2 b3 b4 x2 x5 y2 y5 ⊢
 have q1:=gcd345 (H.to 345) (a:=s * p) (b:=(Q:Int)) (by rw [s_abs hs]; exact a1) (by omega)
 have q2:=gcd345 (H.to 345) (a:=t * P) (b:=(q:Int)) (by rw [s_abs ht]; exact a3) (by omega)
 rw [s_abs hs,Int.natAbs_natCast] at q1
 rw [s_abs ht,Int.natAbs_natCast] at q2
 have g0:0 < Nat.gcd p Q:=Nat.gcd_pos_of_pos_left _ b1
 have h0:0 < Nat.gcd P q:=Nat.gcd_pos_of_pos_left _ b3
 unfold timesL
 dsimp only
 have c1:=s_tdiv hs p (Nat.gcd p Q)
 have c2:=s_tdiv ht P (Nat.gcd P q)
 have c3:((q:Int)).tdiv (Nat.gcd P q:Nat) = ((q / Nat.gcd P q:Nat):Int):=Int.ofNat_tdiv q _ |>.symm
 have c4:((Q:Int)).tdiv (Nat.gcd p Q:Nat) = ((Q / Nat.gcd p Q:Nat):Int):=Int.ofNat_tdiv Q _ |>.symm
 have l1:=Nat.div_le_self p (Nat.gcd p Q)
 have l2:=Nat.div_le_self P (Nat.gcd P q)
 have l3:=Nat.div_le_self q (Nat.gcd P q)
 have l4:=Nat.div_le_self Q (Nat.gcd p Q)
 generalize Nat.gcd p Q = g at *
 generalize Nat.gcd P q = k at *
 generalize p / g = A at *
 generalize P / k = B at *
 generalize q / k = C at *
 generalize Q / g = D at *
 have m1:=mulS (H.to 350) hs ht (a:=A) (b:=B) (by omega) (by omega)
 have m2:=mulS (H.to 350) (s:=1) (t:=1) (Or.inl rfl) (Or.inl rfl) (a:=C) (b:=D) (by omega) (by omega)
 simp only [Int.one_mul] at m2
 have w1:=s_w64 hs (m:=A) (by omega)
 have w2:=s_w64 ht (m:=B) (by omega)
 have w3:IntKind.i64.wrap (C:Int) = C:=w64
 have w4:IntKind.i64.wrap (D:Int) = D:=w64
 have r1:IntKind.i64.wrap 1 = 1:=w64
 have r2:IntKind.i64.wrap 2 = 2:=w64
 have r3:IntKind.i64.wrap (two + Two) = two + Two:=w64
 have r4:IntKind.i64.wrap (five + Five) = five + Five:=w64
 have gz:¬ g = 0:=by omega
 have kz:¬ k = 0:=by omega
 refine ⟨if A * B ≤ 9223372036854775807 then s * t * (A * B:Nat) else 0,if C * D ≤ 9223372036854775807 then ((C * D:Nat):Int) else 0,?_,?_⟩
 ·have hiss:(if A * B ≤ 9223372036854775807∧C * D ≤ 9223372036854775807 then some (⟨s * t,A * B,C * D,two + Two,five + Five⟩:Lo) else none).isSome = (decide (A * B ≤ 9223372036854775807) && decide (C * D ≤ 9223372036854775807)):=by
   by_cases h1:A * B ≤ 9223372036854775807 <;> by_cases h2:C * D ≤ 9223372036854775807 <;> simp [h1,h2]
  rw [hiss]
  simp only [loA,loC]
  generalize (if A * B ≤ 9223372036854775807 then s * t * ((A * B:Nat):Int) else 0) = U at *
  generalize (if C * D ≤ 9223372036854775807 then ((C * D:Nat):Int) else 0) = V at *
  generalize s * (p:Int) = z1 at *
  generalize t * (P:Int) = z2 at *
  generalize s * (A:Int) = z3 at *
  generalize t * (B:Int) = z4 at *
  cases h1:decide (A * B ≤ 9223372036854775807) <;>
  simp [f346,start,EvCode_loop,l346_0,q1,q2,c1,c2,c3,c4,m1,m2,h1,w1,w2,w3,w4,r1,r2,r3,r4,gz,kz,push_setk]
 ·intro z hz
  split at hz
  ·rename_i hc
   cases hz
   simp [hc.1,hc.2]
  ·exact absurd hz (by simp)
end Go.Pv
/- The program's fractions: putting a loose number together. Conditions: the functions' codes; theorems. -/
namespace Go.Pv
variable {E:Env}
def fcC (f:Fc):List AV:=[.int .i64 f.num,.int .i64 f.den,.int .i64 f.ten]
def fcA (f:Fc):AV:=.agg (fcC f)
def fc0:AV:=.agg [.int .i64 0,.int .i64 0,.int .i64 0]
def rsF:Except Int Fc→AV
 | .ok f=>.tuple [fcA f,.int .i64 0]
 | .error e=>.tuple [fc0,.int .i64 e]
def overE {α:Type}:Option α→Except Int α
 | some f=>.ok f
 | none=>.error 10
theorem push_setl {h:AHeap} {x y:ABlk} {k:Nat} (hk:k < h.blks.length):(h.push x).setBlk k y = (h.setBlk k y).push x:=by
 simp [AHeap.push,AHeap.setBlk,List.set_append_left _ _ hk]
abbrev fh (r r':ABlk) (n:Int) (b:Bool):AHeap:=(((heap0.push r).push r').push (.cells [.int .i64 n])).push (.cells [.bool b])
theorem put_loop (H:Has 350 E) {s:Int} (hs:s = 1∨s = -1) {p:Nat} (hp:2 ≤ p) (hp':p ≤ 10) {k:Nat} (hk:k ≤ 4000000) {r0 r1:ABlk}:∀ (r i m:Nat) (F:Fr),i + r = k→0 < m→m ≤ 9223372036854775807→mask k349_0 F = s349_0 (.int .i64 p) (.ref 2 0) (.ref 3 0) (.int .i64 k) (.int .i64 i) →
  (m * p ^ r ≤ 9223372036854775807→EvCode E (.loop k349_0 l349_0) F (fh r0 r1 (s * m) true) = some (.exit 0,x349_0,fh r0 r1 (s * (m * p ^ r:Nat)) true)) ∧
  (9223372036854775807 < m * p ^ r→∃ n',EvCode E (.loop k349_0 l349_0) F (fh r0 r1 (s * m) true) = some (.ret,r349,fh r0 r1 n' false)):=by
 intro r
 induction r with
 | zero=>
  intro i m F hi h0 hm hF
  have hi':i = k:=by omega
  subst hi'
  rw [EvCode_loop,hF]
  constructor
  ·intro _
   simp [l349_0,s349_0,x349_0]
  ·intro h; simp at h; omega
 | succ r ih=>
  intro i m F hi h0 hm hF
  have hlt:i < k:=by omega
  have hw:IntKind.i64.wrap ((i:Int) + 1) = ((i + 1:Nat):Int):=w64
  have hq:=mulS H hs (t:=1) (Or.inl rfl) (a:=m) (b:=p) hm (by omega)
  simp only [Int.one_mul,Int.mul_one] at hq
  have e:m * p ^ (r + 1) = m * p * p ^ r:=by rw [Nat.pow_succ,Nat.mul_comm (p ^ r) p,Nat.mul_assoc]
  by_cases ho:m * p ≤ 9223372036854775807
  ·have ih':=fun F hF=>ih (i + 1) (m * p) F (by omega) (Nat.mul_pos h0 (by omega)) ho hF
   rw [EvCode_loop,hF,e]
   simp only [ho,if_true,decide_true] at hq
   generalize hz:s * ((m * p:Nat):Int) = z at *
   generalize EvCode E (.loop k349_0 l349_0) = lp at ih' ⊢
   generalize s * (m:Int) = y at *
   constructor
   ·intro h
    simp [l349_0,s349_0,hlt,hw,EvCall_closed H.c350 rfl,hq,push_setk]
    exact (ih' _ (by simp [s349_0])).1 h
   ·intro h
    simp [l349_0,s349_0,hlt,hw,EvCall_closed H.c350 rfl,hq,push_setk]
    exact (ih' _ (by simp [s349_0])).2 h
  ·rw [EvCode_loop,hF]
   simp only [ho,if_false,decide_false] at hq
   have hbig:9223372036854775807 < m * p ^ (r + 1):=by
    rw [e]
    have:m * p ≤ m * p * p ^ r:=Nat.le_mul_of_pos_right _ (Nat.pow_pos (by omega))
    omega
   refine ⟨fun h=>absurd h (by omega),fun _=>⟨s * m,?_⟩⟩
   generalize EvCode E (.loop k349_0 l349_0) = lp
   generalize s * (m:Int) = y at *
   simp [l349_0,s349_0,hlt,EvCall_closed H.c350 rfl,hq,push_setk,r349]
theorem put_0 (H:Has 349 E) {p n:Int} {b:Bool} {r0 r1:ABlk}:
  EvCall E (.fn (.func 349) [] [.ref 2 0,.ref 3 0]) [.int .i64 p,.int .i64 0] (fh r0 r1 n b) = some (.ret (.tuple []),fh r0 r1 n b):=by
 rw [EvCall_open H.c349 rfl,EvFn_eq]
 simp [f349,start,EvCode_loop,l349_0]
theorem put_yes (H:Has 349 E) {s:Int} (hs:s = 1∨s = -1) {p:Nat} (hp:2 ≤ p) (hp':p ≤ 10) {k m:Nat} (hk:k ≤ 4000000) (h0:0 < m) (hm:m ≤ 9223372036854775807) (h:m * p ^ k ≤ 9223372036854775807) {r0 r1:ABlk}:
  EvCall E (.fn (.func 349) [] [.ref 2 0,.ref 3 0]) [.int .i64 p,.int .i64 k] (fh r0 r1 (s * m) true) = some (.ret (.tuple []),fh r0 r1 (s * (m * p ^ k:Nat)) true):=by
 rw [EvCall_open H.c349 rfl,EvFn_eq]
 have hl:=fun F hF=>(put_loop (H.to 350) hs hp hp' hk (r0:=r0) (r1:=r1) k 0 m F (by omega) h0 hm hF).1 h
 simp only [Int.natCast_zero] at hl
 generalize s * ((m * p ^ k:Nat):Int) = z at *
 generalize s * (m:Int) = y at *
 simp [f349,start]
 rw [hl _ (by simp [s349_0])]
 simp [x349_0]
theorem put_no (H:Has 349 E) {s:Int} (hs:s = 1∨s = -1) {p:Nat} (hp:2 ≤ p) (hp':p ≤ 10) {k m:Nat} (hk:k ≤ 4000000) (h0:0 < m) (hm:m ≤ 9223372036854775807) (h:9223372036854775807 < m * p ^ k) {r0 r1:ABlk}:
  ∃ n',EvCall E (.fn (.func 349) [] [.ref 2 0,.ref 3 0]) [.int .i64 p,.int .i64 k] (fh r0 r1 (s * m) true) = some (.ret (.tuple []),fh r0 r1 n' false):=by
 rw [EvCall_open H.c349 rfl,EvFn_eq]
 have hl:=fun F hF=>(put_loop (H.to 350) hs hp hp' hk (r0:=r0) (r1:=r1) k 0 m F (by omega) h0 hm hF).2 h
 simp only [Int.natCast_zero] at hl
 generalize s * (m:Int) = y at *
 have hF0:mask k349_0 ⟨[.int .i64 p,.int .i64 k,.ref 2 0,.ref 3 0,.junk,.junk,.junk,.junk,.int .i64 k,.int .i64 0,.junk,.junk,.junk,.junk,.junk,.junk,.junk,.junk,.junk,.junk,.junk,.junk,.junk,.junk,.junk],[],.call⟩ = s349_0 (.int .i64 p) (.ref 2 0) (.ref 3 0) (.int .i64 k) (.int .i64 0):=by simp [s349_0]
 obtain ⟨n',hn⟩:=hl _ hF0
 refine ⟨n',?_⟩
 simp [f349,start]
 rw [hn]
 simp [r349]
end Go.Pv
/- The program's fractions: form. Conditions: the functions' codes; theorems. -/
namespace Go.Pv
variable {E:Env}
theorem formN_l {x:Lo} (h:x.two ≤ x.five):formN x = x.p * 5 ^ (x.five - x.two).toNat:=by
 unfold formN
 rw [Int.min_eq_left h]
 simp
theorem formN_r {x:Lo} (h:x.five < x.two):formN x = x.p * 2 ^ (x.two - x.five).toNat:=by
 unfold formN
 rw [Int.min_eq_right (by omega)]
 simp
set_option maxRecDepth 20000 in
set_option maxHeartbeats 1000000 in
theorem form335 (H:Has 335 E) {x:Lo} (hx:LoOk x) (h2:x.two.natAbs ≤ 1000000) (h5:x.five.natAbs ≤ 1000000) {ten:Int} (ht:ten.natAbs ≤ 1000000):
  EvClosed E (.fn (.func 335) [] []) [loA x,.int .i64 ten] = some (rsF (overE (formL x ten))):=by
 rw [EvClosed_eq H.c335 rfl (vs:=[loA x,.int .i64 ten]) (by simp [loA,loC]),EvFn_eq]
 have hv:=H.v9
 simp only [globAll,g9] at hv
 have hs:=hx.s
 have hp0:=hx.p0
 have hpt:=hx.pt
 have r1:IntKind.i64.wrap 1 = 1:=w64
 have r2:IntKind.i64.wrap 2 = 2:=w64
 have r0:IntKind.i64.wrap 0 = 0:=w64
 rcases (by omega:x.five < x.two∨x.two ≤ x.five) with hl | hl
 ·have hN:=formN_r hl
  have hm:min x.two x.five = x.five:=Int.min_eq_right (by omega)
  obtain ⟨k,hk⟩:∃ k:Nat,x.two - x.five = (k:Int):=⟨(x.two - x.five).toNat,by omega⟩
  have hk':(x.two - x.five).toNat = k:=by omega
  have z2:=fun n c a b=>put_0 (H.to 349) (p:=5) (n:=n) (b:=c) (r0:=a) (r1:=b)
  have w1:IntKind.i64.wrap (x.two - x.five) = (k:Int):=by rw [hk]; exact w64
  have w3:IntKind.i64.wrap (ten + x.five) = ten + x.five:=w64
  rw [hk'] at hN
  unfold formL
  rw [hm,hN]
  by_cases ho:x.p * 2 ^ k ≤ 9223372036854775807
  ·have y1:=fun a b=>put_yes (H.to 349) hs (p:=2) (by omega) (by omega) (k:=k) (m:=x.p) (by omega) hp0 hpt ho (r0:=a) (r1:=b)
   simp only [fh,show ((2:Nat):Int) = 2 from rfl] at y1 z2
   generalize x.s * ((x.p * 2 ^ k:Nat):Int) = z at *
   obtain ⟨s,p,q,two,five⟩:=x
   simp only [loA,loC] at *
   generalize s * (p:Int) = y at *
   by_cases c1:-1000 ≤ ten + five
   ·have d1:¬ ten + five < -1000:=by omega
    by_cases c2:ten + five ≤ 1000
    ·have d2:¬ 1000 < ten + five:=by omega
     simp [f335,start,EvCode_loop,l335_0,hv,hl,y1,z2,w1,w3,r0,r1,r2,ho,c1,c2,d1,d2,push_setk,push_setl,overE,rsF,fcA,fcC]
    ·have d2:1000 < ten + five:=by omega
     simp [f335,start,EvCode_loop,l335_0,hv,hl,y1,z2,w1,w3,r0,r1,r2,ho,c1,c2,d1,d2,push_setk,push_setl,overE,rsF,fc0]
   ·have d1:ten + five < -1000:=by omega
    simp [f335,start,EvCode_loop,l335_0,hv,hl,y1,z2,w1,w3,r0,r1,r2,ho,c1,d1,push_setk,push_setl,overE,rsF,fc0]
  ·obtain ⟨n',y1⟩:=put_no (H.to 349) hs (p:=2) (by omega) (by omega) (k:=k) (m:=x.p) (by omega) hp0 hpt (by omega) (r0:=.cells (loC x)) (r1:=.cells [.int .i64 0,.int .i64 0,.int .i64 0])
   simp only [fh,loC,show ((2:Nat):Int) = 2 from rfl] at y1 z2
   obtain ⟨s,p,q,two,five⟩:=x
   simp only [loA,loC] at *
   generalize s * (p:Int) = y at *
   simp [f335,start,EvCode_loop,l335_0,hv,hl,y1,z2,w1,w3,r0,r1,r2,ho,push_setk,push_setl,overE,rsF,fc0]
 ·have hN:=formN_l hl
  have hm:min x.two x.five = x.two:=Int.min_eq_left hl
  obtain ⟨k,hk⟩:∃ k:Nat,x.five - x.two = (k:Int):=⟨(x.five - x.two).toNat,by omega⟩
  have hk':(x.five - x.two).toNat = k:=by omega
  have z2:=fun n c a b=>put_0 (H.to 349) (p:=2) (n:=n) (b:=c) (r0:=a) (r1:=b)
  have w1:IntKind.i64.wrap (x.five - x.two) = (k:Int):=by rw [hk]; exact w64
  have w3:IntKind.i64.wrap (ten + x.two) = ten + x.two:=w64
  have hl':¬ x.five < x.two:=by omega
  rw [hk'] at hN
  unfold formL
  rw [hm,hN]
  by_cases ho:x.p * 5 ^ k ≤ 9223372036854775807
  ·have y1:=fun a b=>put_yes (H.to 349) hs (p:=5) (by omega) (by omega) (k:=k) (m:=x.p) (by omega) hp0 hpt ho (r0:=a) (r1:=b)
   simp only [fh,show ((5:Nat):Int) = 5 from rfl] at y1 z2
   generalize x.s * ((x.p * 5 ^ k:Nat):Int) = z at *
   obtain ⟨s,p,q,two,five⟩:=x
   simp only [loA,loC] at *
   generalize s * (p:Int) = y at *
   by_cases c1:-1000 ≤ ten + two
   ·have d1:¬ ten + two < -1000:=by omega
    by_cases c2:ten + two ≤ 1000
    ·have d2:¬ 1000 < ten + two:=by omega
     simp [f335,start,EvCode_loop,l335_0,hv,hl',y1,z2,w1,w3,r0,r1,r2,ho,c1,c2,d1,d2,push_setk,push_setl,overE,rsF,fcA,fcC]
    ·have d2:1000 < ten + two:=by omega
     simp [f335,start,EvCode_loop,l335_0,hv,hl',y1,z2,w1,w3,r0,r1,r2,ho,c1,c2,d1,d2,push_setk,push_setl,overE,rsF,fc0]
   ·have d1:ten + two < -1000:=by omega
    simp [f335,start,EvCode_loop,l335_0,hv,hl',y1,z2,w1,w3,r0,r1,r2,ho,c1,d1,push_setk,push_setl,overE,rsF,fc0]
  ·obtain ⟨n',y1⟩:=put_no (H.to 349) hs (p:=5) (by omega) (by omega) (k:=k) (m:=x.p) (by omega) hp0 hpt (by omega) (r0:=.cells (loC x)) (r1:=.cells [.int .i64 0,.int .i64 0,.int .i64 0])
   simp only [fh,loC,show ((5:Nat):Int) = 5 from rfl] at y1 z2
   obtain ⟨s,p,q,two,five⟩:=x
   simp only [loA,loC] at *
   generalize s * (p:Int) = y at *
   simp [f335,start,EvCode_loop,l335_0,hv,hl',y1,z2,w1,w3,r0,r1,r2,ho,push_setk,push_setl,overE,rsF,fc0]
end Go.Pv
