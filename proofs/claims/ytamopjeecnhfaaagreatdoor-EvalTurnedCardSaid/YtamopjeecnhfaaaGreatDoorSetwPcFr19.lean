/- A part of the proof: functions of the program in the evaluator's code, and what they come to. Conditions: none; definitions and theorems that the statement's proof uses. -/
import Derived.Test.YtamopjeecnhfaaaGreatDoorSetwPcFr16
/- The reference's fractions: splits, forms. Conditions: the functions' codes; theorems. -/
namespace Go.Pv
variable {E:Env}
def loR (x:Lo):List AV:=[.int .i64 x.s,.int .i64 x.p,.int .i64 x.q,.int .i64 x.two,.int .i64 x.five]
def gtC:Except Int Fc→List AV
 | .ok f=>fcC f++[.int .i64 0]
 | .error e=>[.int .i64 0,.int .i64 0,.int .i64 0,.int .i64 e]
def gtF (r:Except Int Fc):AV:=.agg (gtC r)
theorem mulN (H:Has 343 E) {a b:Nat} (ha:a ≤ 9223372036854775807) (hb:b ≤ 9223372036854775807):
  EvClosed E (.fn (.func 343) [] []) [.int .i64 a,.int .i64 b] = some (.agg [.int .i64 (if a * b ≤ 9223372036854775807 then ((a * b:Nat):Int) else 0),.bool (decide (a * b ≤ 9223372036854775807))]):=by
 by_cases h:a * b ≤ 9223372036854775807
 ·have:=mul343_yes H (a:=a) (b:=b) (by omega) (by omega) (by rw [← Int.natCast_mul]; omega)
  rw [this]
  simp [h]
 ·have:=mul343_no H (a:=a) (b:=b) (by omega) (by omega) (by rw [← Int.natCast_mul]; omega)
  rw [this]
  simp [h]
theorem turned322 (H:Has 322 E) {x:Lo} (h2:x.two.natAbs ≤ 1000000) (h5:x.five.natAbs ≤ 1000000):
  EvClosed E (.fn (.func 322) [] []) [.agg (loR x)] = some (.agg (loR (invL x))):=by
 rw [EvClosed_eq H.c322 rfl (vs:=[.agg (loR x)]) (by simp [loR]),EvFn_eq]
 have r3:IntKind.i64.wrap (-x.two) = -x.two:=w64
 have r4:IntKind.i64.wrap (-x.five) = -x.five:=w64
 simp [f322,start,loR,invL,push_setk,r3,r4]
set_option maxRecDepth 20000 in
set_option maxHeartbeats 1000000 in
theorem of320 (H:Has 320 E) {n d:Int} (hn:n ≠ 0) (hd:d ≠ 0) (hn':n.natAbs ≤ 9223372036854775807) (hd':d.natAbs ≤ 9223372036854775807):
  EvClosed E (.fn (.func 320) [] []) [.int .i64 n,.int .i64 d] = some (.agg (loR (loosen n d))):=by
 obtain ⟨s,N,hs,hN,en,es,ea⟩:=sN hn
 obtain ⟨t,D,ht,hD,ed,et,eb⟩:=sN hd
 have hlo:loosen n d = ⟨s * t,(two5 N).2.2 / Nat.gcd (two5 N).2.2 (two5 D).2.2,(two5 D).2.2 / Nat.gcd (two5 N).2.2 (two5 D).2.2,((two5 N).1:Int) - (two5 D).1,((two5 N).2.1:Int) - (two5 D).2.1⟩:=by
  unfold loosen; rw [es,et,ea,eb]
 rw [hlo]
 rw [ea] at hn'
 rw [eb] at hd'
 rw [EvClosed_eq H.c320 rfl (vs:=[.int .i64 n,.int .i64 d]) (by simp),EvFn_eq]
 have q1:=split344 (H.to 344) (p:=2) (by omega) hN hn'
 have q2:=split344 (H.to 344) (p:=2) (by omega) hD hd'
 obtain ⟨a1,a2,a3⟩:=spl_le (p:=2) (by omega) hN hn'
 obtain ⟨b1,b2,b3⟩:=spl_le (p:=2) (by omega) hD hd'
 have q3:=split344 (H.to 344) (p:=5) (by omega) a1 a2
 have q4:=split344 (H.to 344) (p:=5) (by omega) b1 b2
 obtain ⟨c1,c2,c3⟩:=spl_le (p:=5) (by omega) a1 a2
 obtain ⟨d1,d2,d3⟩:=spl_le (p:=5) (by omega) b1 b2
 have k2:((2:Nat):Int) = 2:=rfl
 have k5:((5:Nat):Int) = 5:=rfl
 rw [k2] at q1 q2
 rw [k5] at q3 q4
 unfold two5
 dsimp only
 generalize spl 2 N = u at *
 generalize spl 2 D = v at *
 generalize spl 5 u.2 = w at *
 generalize spl 5 v.2 = x at *
 obtain ⟨u1,u2⟩:=u
 obtain ⟨v1,v2⟩:=v
 obtain ⟨w1,w2⟩:=w
 obtain ⟨x1,x2⟩:=x
 dsimp only at *
 have q5:=gcd342 (H.to 342) (a:=(w2:Int)) (b:=(x2:Int)) (by omega) (by omega)
 rw [Int.natAbs_natCast,Int.natAbs_natCast] at q5
 have g2:0 < Nat.gcd w2 x2:=Nat.gcd_pos_of_pos_left _ c1
 have le1:=Nat.div_le_self w2 (Nat.gcd w2 x2)
 have le2:=Nat.div_le_self x2 (Nat.gcd w2 x2)
 have e1:((w2:Int)).tdiv (Nat.gcd w2 x2:Nat) = ((w2 / Nat.gcd w2 x2:Nat):Int):=Int.ofNat_tdiv w2 _ |>.symm
 have e2:((x2:Int)).tdiv (Nat.gcd w2 x2:Nat) = ((x2 / Nat.gcd w2 x2:Nat):Int):=Int.ofNat_tdiv x2 _ |>.symm
 generalize Nat.gcd w2 x2 = g at *
 generalize w2 / g = W at *
 generalize x2 / g = Q at *
 have f3:IntKind.i64.wrap (W:Int) = W:=w64
 have f4:IntKind.i64.wrap (Q:Int) = Q:=w64
 have r1:IntKind.i64.wrap ((u1:Int) - v1) = (u1:Int) - v1:=w64
 have r2:IntKind.i64.wrap ((w1:Int) - x1) = (w1:Int) - x1:=w64
 have r4:IntKind.i64.wrap (-1) = -1:=w64
 have r5:IntKind.i64.wrap 1 = 1:=w64
 have g0:¬ g = 0:=by omega
 have r6:IntKind.i64.wrap (-n) = -n:=w64
 have r7:IntKind.i64.wrap (-d) = -d:=w64
 rcases hs with h | h <;> rcases ht with h' | h' <;> subst h h'
 ·have n1:¬ n < 0:=by omega
  have n2:¬ d < 0:=by omega
  have n3:n = N:=by omega
  have n4:d = D:=by omega
  clear en ed es et ea eb hlo
  subst n3 n4
  simp [f320,start,EvCall_closed H.c344 rfl,EvCall_closed H.c342 rfl,q1,q2,q3,q4,q5,push_setk,push_setl,r1,r2,g0,e1,e2,f3,f4,n1,n2,loR]
 ·have n1:¬ n < 0:=by omega
  have n2:d < 0:=by omega
  have n3:n = N:=by omega
  have n4:-d = D:=by omega
  clear en ed es et ea eb hlo
  subst n3
  rw [n4] at r7
  simp [f320,start,EvCall_closed H.c344 rfl,EvCall_closed H.c342 rfl,q1,q2,q3,q4,q5,push_setk,push_setl,r1,r2,r4,g0,e1,e2,f3,f4,n1,n2,n4,r7,loR]
 ·have n1:n < 0:=by omega
  have n2:¬ d < 0:=by omega
  have n3:-n = N:=by omega
  have n4:d = D:=by omega
  clear en ed es et ea eb hlo
  subst n4
  rw [n3] at r6
  simp [f320,start,EvCall_closed H.c344 rfl,EvCall_closed H.c342 rfl,q1,q2,q3,q4,q5,push_setk,push_setl,r1,r2,r4,g0,e1,e2,f3,f4,n1,n2,n3,r6,loR]
 ·have n1:n < 0:=by omega
  have n2:d < 0:=by omega
  have n3:-n = N:=by omega
  have n4:-d = D:=by omega
  clear en ed es et ea eb hlo
  rw [n3] at r6
  rw [n4] at r7
  simp [f320,start,EvCall_closed H.c344 rfl,EvCall_closed H.c342 rfl,q1,q2,q3,q4,q5,push_setk,push_setl,r1,r2,r4,r5,g0,e1,e2,f3,f4,n1,n2,n3,n4,r6,r7,loR]
end Go.Pv
/- The reference's fractions: forms. Conditions: the functions' codes; theorems. -/
namespace Go.Pv
variable {E:Env}
def formR (x:Lo) (ten:Int):Except Int Fc:=if ten < -2000∨2000 < ten then .error 10 else overE (formL x ten)
abbrev z4C:List AV:=[.int .i64 0,.int .i64 0,.int .i64 0,.int .i64 0]
structure FormH (b0:ABlk) (h:AHeap):Prop where
 ro:h.ro = 0
 b0:h.bl 0 = some b0
 b1:h.bl 1 = some (.cells z4C)
theorem formN_r2 {x:Lo} (h:x.five ≤ x.two):formN x = x.p * 2 ^ (x.two - x.five).toNat:=by
 unfold formN
 rw [Int.min_eq_right h]
 simp
set_option maxRecDepth 20000 in
theorem formr_loop (H:Has 343 E) {ten least:Int} {p:Nat} (hp:2 ≤ p) (hp':p ≤ 10) {k:Nat} (hk:k ≤ 4000000) {b0:ABlk}:∀ (r i m:Nat) (h:AHeap),i + r = k→0 < m→m ≤ 9223372036854775807→FormH b0 h →
  (m * p ^ r ≤ 9223372036854775807→∃ h',(∀ F,mask k324_0 F = s324_0 (.int .i64 ten) (.ref 0 0) (.ref 1 0) (.int .i64 p) (.int .i64 least) (.int .i64 k) (.int .i64 m) (.int .i64 i) →
   EvCode E (.loop k324_0 l324_0) F h = some (.exit 0,x324_0 (.int .i64 ten) (.ref 0 0) (.ref 1 0) (.int .i64 least) (.int .i64 (m * p ^ r:Nat)),h'))∧FormH b0 h') ∧
  (9223372036854775807 < m * p ^ r→∃ h',(∀ F,mask k324_0 F = s324_0 (.int .i64 ten) (.ref 0 0) (.ref 1 0) (.int .i64 p) (.int .i64 least) (.int .i64 k) (.int .i64 m) (.int .i64 i) →
   EvCode E (.loop k324_0 l324_0) F h = some (.ret,r324 (.ref 1 0),h'))∧h'.bl 1 = some (.cells [.int .i64 0,.int .i64 0,.int .i64 0,.int .i64 10])):=by
 intro r
 induction r with
 | zero=>
  intro i m h hi h0 hm hh
  have hi':i = k:=by omega
  subst hi'
  constructor
  ·intro _
   refine ⟨h,fun F hF=>?_,hh⟩
   rw [EvCode_loop,hF]
   simp [l324_0,s324_0,x324_0]
  ·intro h; simp at h; omega
 | succ r ih=>
  intro i m h hi h0 hm hh
  have hlt:i < k:=by omega
  have hw:IntKind.i64.wrap ((i:Int) + 1) = ((i + 1:Nat):Int):=w64
  have hq:=mulN H (a:=m) (b:=p) hm (by omega)
  have e:m * p ^ (r + 1) = m * p * p ^ r:=by rw [Nat.pow_succ,Nat.mul_comm (p ^ r) p,Nat.mul_assoc]
  have hlen:=blk_lt hh.b1
  have n0:¬ 0 = h.blks.length:=by omega
  have n1:¬ 1 = h.blks.length:=by omega
  have hro:=hh.ro
  have hb0:=hh.b0
  have hb1:=hh.b1
  by_cases ho:m * p ≤ 9223372036854775807
  ·have hh':FormH b0 (h.push (.cells [.int .i64 (m * p:Nat),.bool true])):=⟨by simp [hro],by simp [n0,hb0],by simp [n1,hb1]⟩
   have ih':=ih (i + 1) (m * p) _ (by omega) (Nat.mul_pos h0 (by omega)) ho hh'
   rw [e]
   simp only [ho,if_true,decide_true] at hq
   generalize ((m * p:Nat):Int) = z at *
   constructor
   ·intro hle
    obtain ⟨h',a1,a2⟩:=ih'.1 hle
    refine ⟨h',fun F hF=>?_,a2⟩
    rw [EvCode_loop,hF]
    generalize EvCode E (.loop k324_0 l324_0) = lp at a1 ⊢
    simp [l324_0,s324_0,hlt,hw,EvCall_closed H.c343 rfl,hq,push_setk,hro]
    exact a1 _ (by simp [s324_0])
   ·intro hle
    obtain ⟨h',a1,a2⟩:=ih'.2 hle
    refine ⟨h',fun F hF=>?_,a2⟩
    rw [EvCode_loop,hF]
    generalize EvCode E (.loop k324_0 l324_0) = lp at a1 ⊢
    simp [l324_0,s324_0,hlt,hw,EvCall_closed H.c343 rfl,hq,push_setk,hro]
    exact a1 _ (by simp [s324_0])
  ·simp only [ho,if_false,decide_false] at hq
   have hbig:9223372036854775807 < m * p ^ (r + 1):=by
    rw [e]
    have:m * p ≤ m * p * p ^ r:=Nat.le_mul_of_pos_right _ (Nat.pow_pos (by omega))
    omega
   refine ⟨fun h=>absurd h (by omega),fun _=>⟨(h.push (.cells [.int .i64 0,.bool false])).setBlk 1 (.cells [.int .i64 0,.int .i64 0,.int .i64 0,.int .i64 10]),fun F hF=>?_,?_⟩⟩
   ·rw [EvCode_loop,hF]
    generalize EvCode E (.loop k324_0 l324_0) = lp
    simp [l324_0,s324_0,hlt,EvCall_closed H.c343 rfl,hq,push_setk,hro,n1,hb1,r324]
   ·simp [n1,hb1]
set_option maxRecDepth 20000 in
set_option maxHeartbeats 1000000 in
theorem form324 (H:Has 324 E) {x:Lo} (hx:LoOk x) (h2:x.two.natAbs ≤ 1000000) (h5:x.five.natAbs ≤ 1000000) {ten:Int} (ht:ten.natAbs ≤ 1000000):
  EvClosed E (.fn (.func 324) [] []) [.agg (loR x),.int .i64 ten] = some (gtF (formR x ten)):=by
 rw [EvClosed_eq H.c324 rfl (vs:=[.agg (loR x),.int .i64 ten]) (by simp [loR]),EvFn_eq]
 have hs:=hx.s
 have hp0:=hx.p0
 have hpt:=hx.pt
 have hh:FormH (.cells (loR x)) ((heap0.push (.cells (loR x))).push (.cells z4C)):=⟨rfl,by simp,by simp⟩
 rcases (by omega:x.five ≤ x.two∨x.two < x.five) with hl | hl
 ·have hN:formN x = x.p * 2 ^ (x.two - x.five).toNat:=formN_r2 hl
  have hm:min x.two x.five = x.five:=Int.min_eq_right (by omega)
  obtain ⟨k,hk⟩:∃ k:Nat,x.two - x.five = (k:Int):=⟨(x.two - x.five).toNat,by omega⟩
  have hk':(x.two - x.five).toNat = k:=by omega
  have w1:IntKind.i64.wrap (x.two - x.five) = (k:Int):=by rw [hk]; exact w64
  have w3:IntKind.i64.wrap (ten + x.five) = ten + x.five:=w64
  have hl':¬ x.two < x.five:=by omega
  rw [hk'] at hN
  unfold formR formL
  rw [hm,hN]
  have hlp:=formr_loop (H.to 343) (ten:=ten) (least:=x.five) (p:=2) (by omega) (by omega) (k:=k) (by omega) k 0 x.p _ (by omega) hp0 hpt hh
  rw [show ((2:Nat):Int) = 2 from rfl,show ((0:Nat):Int) = 0 from rfl] at hlp
  simp only [loR] at hlp ⊢
  by_cases ho:x.p * 2 ^ k ≤ 9223372036854775807
  ·obtain ⟨h',a1,a2⟩:=hlp.1 ho
   have a3:=a2.ro
   have a4:=a2.b0
   have a5:=a2.b1
   have n:=s_abs hs (x.p * 2 ^ k)
   have w4:IntKind.i64.wrap (x.s * ((x.p * 2 ^ k:Nat):Int)) = x.s * ((x.p * 2 ^ k:Nat):Int):=w64
   generalize ((x.p * 2 ^ k:Nat):Int) = z at *
   simp [f324,start,hl',w1]
   rw [a1 _ (by simp [s324_0])]
   by_cases t1:ten < -2000
   ·simp [x324_0,t1,a3,a5,gtF,gtC]
   ·by_cases t2:2000 < ten
    ·simp [x324_0,t1,t2,a3,a5,gtF,gtC]
    ·by_cases c1:ten + x.five < -1000
     ·have d1:¬ -1000 ≤ ten + x.five:=by omega
      simp [x324_0,t1,t2,w3,c1,d1,ho,a3,a5,gtF,gtC,overE]
     ·by_cases c2:1000 < ten + x.five
      ·have d1:-1000 ≤ ten + x.five:=by omega
       have d2:¬ ten + x.five ≤ 1000:=by omega
       simp [x324_0,t1,t2,w3,c1,c2,d1,d2,ho,a3,a5,gtF,gtC,overE]
      ·have d1:-1000 ≤ ten + x.five:=by omega
       have d2:ten + x.five ≤ 1000:=by omega
       simp [x324_0,t1,t2,w3,w4,c1,c2,d1,d2,ho,a3,a4,a5,gtF,gtC,overE,fcC]
  ·obtain ⟨h',a1,a2⟩:=hlp.2 (by omega)
   have e:(if ten < -2000∨2000 < ten then Except.error 10 else overE (if x.p * 2 ^ k ≤ 9223372036854775807∧-1000 ≤ ten + x.five∧ten + x.five ≤ 1000 then some (⟨x.s * ((x.p * 2 ^ k:Nat):Int),x.q,ten + x.five⟩:Fc) else none)) = Except.error 10:=by
    split
    ·rfl
    ·rw [if_neg (fun h=>ho h.1)]
     rfl
   rw [e]
   simp [f324,start,hl',w1]
   rw [a1 _ (by simp [s324_0])]
   simp [r324,a2,gtF,gtC]
 ·have hN:formN x = x.p * 5 ^ (x.five - x.two).toNat:=formN_l (by omega)
  have hm:min x.two x.five = x.two:=Int.min_eq_left (by omega)
  obtain ⟨k,hk⟩:∃ k:Nat,x.five - x.two = (k:Int):=⟨(x.five - x.two).toNat,by omega⟩
  have hk':(x.five - x.two).toNat = k:=by omega
  have w1:IntKind.i64.wrap (x.five - x.two) = (k:Int):=by rw [hk]; exact w64
  have w3:IntKind.i64.wrap (ten + x.two) = ten + x.two:=w64
  have hl':x.two < x.five:=hl
  rw [hk'] at hN
  unfold formR formL
  rw [hm,hN]
  have hlp:=formr_loop (H.to 343) (ten:=ten) (least:=x.two) (p:=5) (by omega) (by omega) (k:=k) (by omega) k 0 x.p _ (by omega) hp0 hpt hh
  rw [show ((5:Nat):Int) = 5 from rfl,show ((0:Nat):Int) = 0 from rfl] at hlp
  simp only [loR] at hlp ⊢
  by_cases ho:x.p * 5 ^ k ≤ 9223372036854775807
  ·obtain ⟨h',a1,a2⟩:=hlp.1 ho
   have a3:=a2.ro
   have a4:=a2.b0
   have a5:=a2.b1
   have n:=s_abs hs (x.p * 5 ^ k)
   have w4:IntKind.i64.wrap (x.s * ((x.p * 5 ^ k:Nat):Int)) = x.s * ((x.p * 5 ^ k:Nat):Int):=w64
   generalize ((x.p * 5 ^ k:Nat):Int) = z at *
   simp [f324,start,hl',w1]
   rw [a1 _ (by simp [s324_0])]
   by_cases t1:ten < -2000
   ·simp [x324_0,t1,a3,a5,gtF,gtC]
   ·by_cases t2:2000 < ten
    ·simp [x324_0,t1,t2,a3,a5,gtF,gtC]
    ·by_cases c1:ten + x.two < -1000
     ·have d1:¬ -1000 ≤ ten + x.two:=by omega
      simp [x324_0,t1,t2,w3,c1,d1,ho,a3,a5,gtF,gtC,overE]
     ·by_cases c2:1000 < ten + x.two
      ·have d1:-1000 ≤ ten + x.two:=by omega
       have d2:¬ ten + x.two ≤ 1000:=by omega
       simp [x324_0,t1,t2,w3,c1,c2,d1,d2,ho,a3,a5,gtF,gtC,overE]
      ·have d1:-1000 ≤ ten + x.two:=by omega
       have d2:ten + x.two ≤ 1000:=by omega
       simp [x324_0,t1,t2,w3,w4,c1,c2,d1,d2,ho,a3,a4,a5,gtF,gtC,overE,fcC]
  ·obtain ⟨h',a1,a2⟩:=hlp.2 (by omega)
   have e:(if ten < -2000∨2000 < ten then Except.error 10 else overE (if x.p * 5 ^ k ≤ 9223372036854775807∧-1000 ≤ ten + x.two∧ten + x.two ≤ 1000 then some (⟨x.s * ((x.p * 5 ^ k:Nat):Int),x.q,ten + x.two⟩:Fc) else none)) = Except.error 10:=by
    split
    ·rfl
    ·rw [if_neg (fun h=>ho h.1)]
     rfl
   rw [e]
   simp [f324,start,hl',w1]
   rw [a1 _ (by simp [s324_0])]
   simp [r324,a2,gtF,gtC]
end Go.Pv
