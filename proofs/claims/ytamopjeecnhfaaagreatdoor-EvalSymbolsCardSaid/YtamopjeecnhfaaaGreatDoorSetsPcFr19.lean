/- A part of the proof: functions of the program in the evaluator's code, and what they come to. Conditions: none; definitions and theorems that the statement's proof uses. -/
import Derived.Test.YtamopjeecnhfaaaGreatDoorSetsPcFr16
/- The reference's fractions: splits, forms. Conditions: the functions' codes; theorems. -/
namespace Go.Pv
variable {E:Env}
def loR (x:Lo):List AV:=[.int .i64 x.s,.int .i64 x.p,.int .i64 x.q,.int .i64 x.two,.int .i64 x.five]
def gtC:Except Int Fc→List AV
 | .ok f=>fcC f++[.int .i64 0]
 | .error e=>[.int .i64 0,.int .i64 0,.int .i64 0,.int .i64 e]
def gtF (r:Except Int Fc):AV:=.agg (gtC r)
theorem mulN (H:Has 343 E) {a b:Nat} (ha:a ≤ 9223372036854775807) (hb:b ≤ 9223372036854775807):
  EvClosed E (.fn (.func 343) [] []) [.int .i64 a,.int .i64 b] = some (.agg [.int .i64 (if a * b ≤ 9223372036854775807 then ((a * b:Nat):Int) else 0),.bool (decide (a * b ≤ 9223372036854775807))]):=by
 by_cases h:a * b ≤ 9223372036854775807
 ·have:=mul343_yes H (a:=a) (b:=b) (by omega) (by omega) (by rw [← Int.natCast_mul]; omega)
  rw [this]
  simp [h]
 ·have:=mul343_no H (a:=a) (b:=b) (by omega) (by omega) (by rw [← Int.natCast_mul]; omega)
  rw [this]
  simp [h]
theorem turned322 (H:Has 322 E) {x:Lo} (h2:x.two.natAbs ≤ 1000000) (h5:x.five.natAbs ≤ 1000000):
  EvClosed E (.fn (.func 322) [] []) [.agg (loR x)] = some (.agg (loR (invL x))):=by
 rw [EvClosed_eq H.c322 rfl (vs:=[.agg (loR x)]) (by simp [loR]),EvFn_eq]
 have r3:IntKind.i64.wrap (-x.two) = -x.two:=w64
 have r4:IntKind.i64.wrap (-x.five) = -x.five:=w64
 simp [f322,start,loR,invL,push_setk,r3,r4]
set_option maxRecDepth 20000 in
set_option maxHeartbeats 1000000 in
theorem of320 (H:Has 320 E) {n d:Int} (hn:n ≠ 0) (hd:d ≠ 0) (hn':n.natAbs ≤ 9223372036854775807) (hd':d.natAbs ≤ 9223372036854775807):
  EvClosed E (.fn (.func 320) [] []) [.int .i64 n,.int .i64 d] = some (.agg (loR (loosen n d))):=by
 obtain ⟨s,N,hs,hN,en,es,ea⟩:=sN hn
 obtain ⟨t,D,ht,hD,ed,et,eb⟩:=sN hd
 have hlo:loosen n d = ⟨s * t,(two5 N).2.2 / Nat.gcd (two5 N).2.2 (two5 D).2.2,(two5 D).2.2 / Nat.gcd (two5 N).2.2 (two5 D).2.2,((two5 N).1:Int) - (two5 D).1,((two5 N).2.1:Int) - (two5 D).2.1⟩:=by
  unfold loosen; rw [es,et,ea,eb]
 rw [hlo]
 rw [ea] at hn'
 rw [eb] at hd'
 rw [EvClosed_eq H.c320 rfl (vs:=[.int .i64 n,.int .i64 d]) (by simp),EvFn_eq]
 have q1:=split344 (H.to 344) (p:=2) (by omega) hN hn'
 have q2:=split344 (H.to 344) (p:=2) (by omega) hD hd'
 obtain ⟨a1,a2,a3⟩:=spl_le (p:=2) (by omega) hN hn'
 obtain ⟨b1,b2,b3⟩:=spl_le (p:=2) (by omega) hD hd'
 have q3:=split344 (H.to 344) (p:=5) (by omega) a1 a2
 have q4:=split344 (H.to 344) (p:=5) (by omega) b1 b2
 obtain ⟨c1,c2,c3⟩:=spl_le (p:=5) (by omega) a1 a2
 obtain ⟨d1,d2,d3⟩:=spl_le (p:=5) (by omega) b1 b2
 have k2:((2:Nat):Int) = 2:=rfl
 have k5:((5:Nat):Int) = 5:=rfl
 rw [k2] at q1 q2
 rw [k5] at q3 q4
 unfold two5
 dsimp only
 generalize spl 2 N = u at *
 generalize spl 2 D = v at *
 generalize spl 5 u.2 = w at *
 generalize spl 5 v.2 = x at *
 obtain ⟨u1,u2⟩:=u
 obtain ⟨v1,v2⟩:=v
 obtain ⟨w1,w2⟩:=w
 obtain ⟨x1,x2⟩:=x
 dsimp only at *
 have q5:=gcd342 (H.to 342) (a:=(w2:Int)) (b:=(x2:Int)) (by omega) (by omega)
 rw [Int.natAbs_natCast,Int.natAbs_natCast] at q5
 have g2:0 < Nat.gcd w2 x2:=Nat.gcd_pos_of_pos_left _ c1
 have le1:=Nat.div_le_self w2 (Nat.gcd w2 x2)
 have le2:=Nat.div_le_self x2 (Nat.gcd w2 x2)
 have e1:((w2:Int)).tdiv (Nat.gcd w2 x2:Nat) = ((w2 / Nat.gcd w2 x2:Nat):Int):=Int.ofNat_tdiv w2 _ |>.symm
 have e2:((x2:Int)).tdiv (Nat.gcd w2 x2:Nat) = ((x2 / Nat.gcd w2 x2:Nat):Int):=Int.ofNat_tdiv x2 _ |>.symm
 generalize Nat.gcd w2 x2 = g at *
 generalize w2 / g = W at *
 generalize x2 / g = Q at *
 have f3:IntKind.i64.wrap (W:Int) = W:=w64
 have f4:IntKind.i64.wrap (Q:Int) = Q:=w64
 have r1:IntKind.i64.wrap ((u1:Int) - v1) = (u1:Int) - v1:=w64
 have r2:IntKind.i64.wrap ((w1:Int) - x1) = (w1:Int) - x1:=w64
 have r4:IntKind.i64.wrap (-1) = -1:=w64
 have r5:IntKind.i64.wrap 1 = 1:=w64
 have g0:¬ g = 0:=by omega
 have r6:IntKind.i64.wrap (-n) = -n:=w64
 have r7:IntKind.i64.wrap (-d) = -d:=w64
 rcases hs with h | h <;> rcases ht with h' | h' <;> subst h h'
 ·have n1:¬ n < 0:=by omega
  have n2:¬ d < 0:=by omega
  have n3:n = N:=by omega
  have n4:d = D:=by omega
  clear en ed es et ea eb hlo
  subst n3 n4
  simp [f320,start,EvCall_closed H.c344 rfl,EvCall_closed H.c342 rfl,q1,q2,q3,q4,q5,push_setk,push_setl,r1,r2,g0,e1,e2,f3,f4,n1,n2,loR]
 ·have n1:¬ n < 0:=by omega
  have n2:d < 0:=by omega
  have n3:n = N:=by omega
  have n4:-d = D:=by omega
  clear en ed es et ea eb hlo
  subst n3
  rw [n4] at r7
  simp [f320,start,EvCall_closed H.c344 rfl,EvCall_closed H.c342 rfl,q1,q2,q3,q4,q5,push_setk,push_setl,r1,r2,r4,g0,e1,e2,f3,f4,n1,n2,n4,r7,loR]
 ·have n1:n < 0:=by omega
  have n2:¬ d < 0:=by omega
  have n3:-n = N:=by omega
  have n4:d = D:=by omega
  clear en ed es et ea eb hlo
  subst n4
  rw [n3] at r6
  simp [f320,start,EvCall_closed H.c344 rfl,EvCall_closed H.c342 rfl,q1,q2,q3,q4,q5,push_setk,push_setl,r1,r2,r4,g0,e1,e2,f3,f4,n1,n2,n3,r6,loR]
 ·have n1:n < 0:=by omega
  have n2:d < 0:=by omega
  have n3:-n = N:=by omega
  have n4:-d = D:=by omega
  clear en ed es et ea eb hlo
  rw [n3] at r6
  rw [n4] at r7
  simp [f320,start,EvCall_closed H.c344 rfl,EvCall_closed H.c342 rfl,q1,q2,q3,q4,q5,push_setk,push_setl,r1,r2,r4,r5,g0,e1,e2,f3,f4,n1,n2,n3,n4,r6,r7,loR]
end Go.Pv
/- The reference's fractions: forms. Conditions: the functions' codes; theorems. -/
namespace Go.Pv
variable {E:Env}
def formR (x:Lo) (ten:Int):Except Int Fc:=if ten < -2000∨2000 < ten then .error 10 else overE (formL x ten)
abbrev z4C:List AV:=[.int .i64 0,.int .i64 0,.int .i64 0,.int .i64 0]
structure FormH (b0:ABlk) (h:AHeap):Prop where
 ro:h.ro = 0
 b0:h.bl 0 = some b0
 b1:h.bl 1 = some (.cells z4C)
theorem formN_r2 {x:Lo} (h:x.five ≤ x.two):formN x = x.p * 2 ^ (x.two - x.five).toNat:=by
 unfold formN
 rw [Int.min_eq_right h]
 simp
set_option maxRecDepth 20000 in
theorem formr_loop (H:Has 343 E) {ten least:Int} {p:Nat} (hp:2 ≤ p) (hp':p ≤ 10) {k:Nat} (hk:k ≤ 4000000) {b0:ABlk}:∀ (r i m:Nat) (h:AHeap),i + r = k→0 < m→m ≤ 9223372036854775807→FormH b0 h →
  (m * p ^ r ≤ 9223372036854775807→∃ h',(∀ F,mask k324_0 F = s324_0 (.int .i64 ten) (.ref 0 0) (.ref 1 0) (.int .i64 p) (.int .i64 least) (.int .i64 k) (.int .i64 m) (.int .i64 i) →
   EvCode E (.loop k324_0 l324_0) F h = some (.exit 0,x324_0 (.int .i64 ten) (.ref 0 0) (.ref 1 0) (.int .i64 least) (.int .i64 (m * p ^ r:Nat)),h'))∧FormH b0 h') ∧
  (9223372036854775807 < m * p ^ r→∃ h',(∀ F,mask k324_0 F = s324_0 (.int .i64 ten) (.ref 0 0) (.ref 1 0) (.int .i64 p) (.int .i64 least) (.int .i64 k) (.int .i64 m) (.int .i64 i) →
   EvCode E (.loop k324_0 l324_0) F h = some (.ret,r324 (.ref 1 0),h'))∧h'.bl 1 = some (.cells [.int .i64 0,.int .i64 0,.int .i64 0,.int .i64 10])):=by
 intro r
 induction r with
 | zero=>
  intro i m h hi h0 hm hh
  have hi':i = k:=by omega
  subst hi'
  constructor
  ·intro _
   refine ⟨h,fun F hF=>?_,hh⟩
   rw [EvCode_loop,hF]
   simp [l324_0,s324_0,x324_0]
  ·intro h; simp at h; omega
 | succ r ih=>
  intro i m h hi h0 hm hh
  have hlt:i < k:=by omega
  have hw:IntKind.i64.wrap ((i:Int) + 1) = ((i + 1:Nat):Int):=w64
  have hq:=mulN H (a:=m) (b:=p) hm (by omega)
  have e:m * p ^ (r + 1) = m * p * p ^ r:=by rw [Nat.pow_succ,Nat.mul_comm (p ^ r) p,Nat.mul_assoc]
  have hlen:=blk_lt hh.b1
  have n0:¬ 0 = h.blks.length:=by omega
  have n1:¬ 1 = h.blks.length:=by omega
  have hro:=hh.ro
  have hb0:=hh.b0
  have hb1:=hh.b1
  by_cases ho:m * p ≤ 9223372036854775807
  ·have hh':FormH b0 (h.push (.cells [.int .i64 (m * p:Nat),.bool true])):=⟨by simp [hro],by simp [n0,hb0],by simp [n1,hb1]⟩
   have ih':=ih (i + 1) (m * p) _ (by omega) (Nat.mul_pos h0 (by omega)) ho hh'
   rw [e]
   simp only [ho,if_true,decide_true] at hq
   generalize ((m * p:Nat):Int) = z at *
   constructor
   ·intro hle
    obtain ⟨h',a1,a2⟩:=ih'.1 hle
    refine ⟨h',fun F hF=>?_,a2⟩
    rw [EvCode_loop,hF]
    generalize EvCode E (.loop k324_0 l324_0) = lp at a1 ⊢
    simp [l324_0,s324_0,hlt,hw,EvCall_closed H.c343 rfl,hq,push_setk,hro]
    exact a1 _ (by simp [s324_0])
   ·intro hle
    obtain ⟨h',a1,a2⟩:=ih'.2 hle
    refine ⟨h',fun F hF=>?_,a2⟩
    rw [EvCode_loop,hF]
    generalize EvCode E (.loop k324_0 l324_0) = lp at a1 ⊢
    simp [l324_0,s324_0,hlt,hw,EvCall_closed H.c343 rfl,hq,push_setk,hro]
    exact a1 _ (by simp [s324_0])
  ·simp only [ho,if_false,decide_false] at hq
   have hbig:9223372036854775807 < m * p ^ (r + 1):=by
    rw [e]
    have:m * p ≤ m * p * p ^ r:=Nat.le_mul_of_pos_right _ (Nat.pow_pos (by omega))
    omega
   refine ⟨fun h=>absurd h (by omega),fun _=>⟨(h.push (.cells [.int .i64 0,.bool false])).setBlk 1 (.cells [.int .i64 0,.int .i64 0,.int .i64 0,.int .i64 10]),fun F hF=>?_,?_⟩⟩
   ·rw [EvCode_loop,hF]
    generalize EvCode E (.loop k324_0 l324_0) = lp
    simp [l324_0,s324_0,hlt,EvCall_closed H.c343 rfl,hq,push_setk,hro,n1,hb1,r324]
   ·simp [n1,hb1]
set_option maxRecDepth 20000 in
set_option maxHeartbeats 1000000 in
theorem form324 (H:Has 324 E) {x:Lo} (hx:LoOk x) (h2:x.two.natAbs ≤ 1000000) (h5:x.five.natAbs ≤ 1000000) {ten:Int} (ht:ten.natAbs ≤ 1000000):
  EvClosed E (.fn (.func 324) [] []) [.agg (loR x),.int .i64 ten] = some (gtF (formR x ten)):=by
 rw [EvClosed_eq H.c324 rfl (vs:=[.agg (loR x),.int .i64 ten]) (by simp [loR]),EvFn_eq]
 have hs:=hx.s
 have hp0:=hx.p0
 have hpt:=hx.pt
 have hh:FormH (.cells (loR x)) ((heap0.push (.cells (loR x))).push (.cells z4C)):=⟨rfl,by simp,by simp⟩
 rcases (by omega:x.five ≤ x.two∨x.two < x.five) with hl | hl
 ·have hN:formN x = x.p * 2 ^ (x.two - x.five).toNat:=formN_r2 hl
  have hm:min x.two x.five = x.five:=Int.min_eq_right (by omega)
  obtain ⟨k,hk⟩:∃ k:Nat,x.two - x.five = (k:Int):=⟨(x.two - x.five).toNat,by omega⟩
  have hk':(x.two - x.five).toNat = k:=by omega
  have w1:IntKind.i64.wrap (x.two - x.five) = (k:Int):=by rw [hk]; exact w64
  have w3:IntKind.i64.wrap (ten + x.five) = ten + x.five:=w64
  have hl':¬ x.two < x.five:=by omega
  rw [hk'] at hN
  unfold formR formL
  rw [hm,hN]
  have hlp:=formr_loop (H.to 343) (ten:=ten) (least:=x.five) (p:=2) (by omega) (by omega) (k:=k) (by omega) k 0 x.p _ (by omega) hp0 hpt hh
  rw [show ((2:Nat):Int) = 2 from rfl,show ((0:Nat):Int) = 0 from rfl] at hlp
  simp only [loR] at hlp ⊢
  by_cases ho:x.p * 2 ^ k ≤ 9223372036854775807
  ·obtain ⟨h',a1,a2⟩:=hlp.1 ho
   have a3:=a2.ro
   have a4:=a2.b0
   have a5:=a2.b1
   have n:=s_abs hs (x.p * 2 ^ k)
   have w4:IntKind.i64.wrap (x.s * ((x.p * 2 ^ k:Nat):Int)) = x.s * ((x.p * 2 ^ k:Nat):Int):=w64
   generalize ((x.p * 2 ^ k:Nat):Int) = z at *
   simp [f324,start,hl',w1]
   rw [a1 _ (by simp [s324_0])]
   by_cases t1:ten < -2000
   ·simp [x324_0,t1,a3,a5,gtF,gtC]
   ·by_cases t2:2000 < ten
    ·simp [x324_0,t1,t2,a3,a5,gtF,gtC]
    ·by_cases c1:ten + x.five < -1000
     ·have d1:¬ -1000 ≤ ten + x.five:=by omega
      simp [x324_0,t1,t2,w3,c1,d1,ho,a3,a5,gtF,gtC,overE]
     ·by_cases c2:1000 < ten + x.five
      ·have d1:-1000 ≤ ten + x.five:=by omega
       have d2:¬ ten + x.five ≤ 1000:=by omega
       simp [x324_0,t1,t2,w3,c1,c2,d1,d2,ho,a3,a5,gtF,gtC,overE]
      ·have d1:-1000 ≤ ten + x.five:=by omega
       have d2:ten + x.five ≤ 1000:=by omega
       simp [x324_0,t1,t2,w3,w4,c1,c2,d1,d2,ho,a3,a4,a5,gtF,gtC,overE,fcC]
  ·obtain ⟨h',a1,a2⟩:=hlp.2 (by omega)
   have e:(if ten < -2000∨2000 < ten then Except.error 10 else overE (if x.p * 2 ^ k ≤ 9223372036854775807∧-1000 ≤ ten + x.five∧ten + x.five ≤ 1000 then some (⟨x.s * ((x.p * 2 ^ k:Nat):Int),x.q,ten + x.five⟩:Fc) else none)) = Except.error 10:=by
    split
    ·rfl
    ·rw [if_neg (fun h=>ho h.1)]
     rfl
   rw [e]
   simp [f324,start,hl',w1]
   rw [a1 _ (by simp [s324_0])]
   simp [r324,a2,gtF,gtC]
 ·have hN:formN x = x.p * 5 ^ (x.five - x.two).toNat:=formN_l (by omega)
  have hm:min x.two x.five = x.two:=Int.min_eq_left (by omega)
  obtain ⟨k,hk⟩:∃ k:Nat,x.five - x.two = (k:Int):=⟨(x.five - x.two).toNat,by omega⟩
  have hk':(x.five - x.two).toNat = k:=by omega
  have w1:IntKind.i64.wrap (x.five - x.two) = (k:Int):=by rw [hk]; exact w64
  have w3:IntKind.i64.wrap (ten + x.two) = ten + x.two:=w64
  have hl':x.two < x.five:=hl
  rw [hk'] at hN
  unfold formR formL
  rw [hm,hN]
  have hlp:=formr_loop (H.to 343) (ten:=ten) (least:=x.two) (p:=5) (by omega) (by omega) (k:=k) (by omega) k 0 x.p _ (by omega) hp0 hpt hh
  rw [show ((5:Nat):Int) = 5 from rfl,show ((0:Nat):Int) = 0 from rfl] at hlp
  simp only [loR] at hlp ⊢
  by_cases ho:x.p * 5 ^ k ≤ 9223372036854775807
  ·obtain ⟨h',a1,a2⟩:=hlp.1 ho
   have a3:=a2.ro
   have a4:=a2.b0
   have a5:=a2.b1
   have n:=s_abs hs (x.p * 5 ^ k)
   have w4:IntKind.i64.wrap (x.s * ((x.p * 5 ^ k:Nat):Int)) = x.s * ((x.p * 5 ^ k:Nat):Int):=w64
   generalize ((x.p * 5 ^ k:Nat):Int) = z at *
   simp [f324,start,hl',w1]
   rw [a1 _ (by simp [s324_0])]
   by_cases t1:ten < -2000
   ·simp [x324_0,t1,a3,a5,gtF,gtC]
   ·by_cases t2:2000 < ten
    ·simp [x324_0,t1,t2,a3,a5,gtF,gtC]
    ·by_cases c1:ten + x.two < -1000
     ·have d1:¬ -1000 ≤ ten + x.two:=by omega
      simp [x324_0,t1,t2,w3,c1,d1,ho,a3,a5,gtF,gtC,overE]
     ·by_cases c2:1000 < ten + x.two
      ·have d1:-1000 ≤ ten + x.two:=by omega
       have d2:¬ ten + x.two ≤ 1000:=by omega
       simp [x324_0,t1,t2,w3,c1,c2,d1,d2,ho,a3,a5,gtF,gtC,overE]
      ·have d1:-1000 ≤ ten + x.two:=by omega
       have d2:ten + x.two ≤ 1000:=by omega
       simp [x324_0,t1,t2,w3,w4,c1,c2,d1,d2,ho,a3,a4,a5,gtF,gtC,overE,fcC]
  ·obtain ⟨h',a1,a2⟩:=hlp.2 (by omega)
   have e:(if ten < -2000∨2000 < ten then Except.error 10 else overE (if x.p * 5 ^ k ≤ 9223372036854775807∧-1000 ≤ ten + x.two∧ten + x.two ≤ 1000 then some (⟨x.s * ((x.p * 5 ^ k:Nat):Int),x.q,ten + x.two⟩:Fc) else none)) = Except.error 10:=by
    split
    ·rfl
    ·rw [if_neg (fun h=>ho h.1)]
     rfl
   rw [e]
   simp [f324,start,hl',w1]
   rw [a1 _ (by simp [s324_0])]
   simp [r324,a2,gtF,gtC]
end Go.Pv
/- The reference's fractions: Right, Make, Mul, Div. Conditions: the functions' codes; theorems. -/
namespace Go.Pv
variable {E:Env}
def prodR (x y:Lo) (ten:Int):Except Int Fc:=match timesL x y with | none=>.error 10 | some z=>formR z ten
theorem formR_in {x:Lo} {ten:Int} (h1:-2000 ≤ ten) (h2:ten ≤ 2000):formR x ten = overE (formL x ten):=by
 unfold formR
 rw [if_neg (by omega)]
theorem prodR_in {x y:Lo} {ten:Int} (h1:-2000 ≤ ten) (h2:ten ≤ 2000):prodR x y ten = prodL x y ten:=by
 unfold prodR prodL
 cases timesL x y with
 | none=>rfl
 | some z=>exact formR_in h1 h2
theorem gtF_shape (r:Except Int Fc):∃ (n d t e:Int),gtF r = .agg [.int .i64 n,.int .i64 d,.int .i64 t,.int .i64 e]∧gtC r = [.int .i64 n,.int .i64 d,.int .i64 t,.int .i64 e]:=by
 cases r with
 | ok f=>exact ⟨f.num,f.den,f.ten,0,rfl,rfl⟩
 | error e=>exact ⟨0,0,0,e,rfl,rfl⟩
set_option maxRecDepth 20000 in
set_option maxHeartbeats 1000000 in
theorem times319 (H:Has 319 E) {x y:Lo} (hx:LoOk x) (hy:LoOk y) (x2:x.two.natAbs ≤ 500000) (x5:x.five.natAbs ≤ 500000) (y2:y.two.natAbs ≤ 500000) (y5:y.five.natAbs ≤ 500000) {ten:Int} (ht:ten.natAbs ≤ 1000000):
  EvClosed E (.fn (.func 319) [] []) [.agg (loR x),.agg (loR y),.int .i64 ten] = some (gtF (prodR x y ten)):=by
 rw [EvClosed_eq H.c319 rfl (vs:=[.agg (loR x),.agg (loR y),.int .i64 ten]) (by simp [loR]),EvFn_eq]
 have hf:∀ z,timesL x y = some z→EvClosed E (.fn (.func 324) [] []) [.agg (loR z),.int .i64 ten] = some (gtF (formR z ten)):=fun z hz=>by
  obtain ⟨e3,e4⟩:=timesL_te hz
  exact form324 (H.to 324) (timesL_ok hx hy hz) (by omega) (by omega) ht
 have a1:=hx.pt
 have a2:=hx.qt
 have a3:=hy.pt
 have a4:=hy.qt
 have b1:=hx.p0
 have b3:=hy.p0
 have hs:=st_pm hx.s hy.s
 have q1:=gcd342 (H.to 342) (a:=(x.p:Int)) (b:=(y.q:Int)) (by omega) (by omega)
 have q2:=gcd342 (H.to 342) (a:=(y.p:Int)) (b:=(x.q:Int)) (by omega) (by omega)
 rw [Int.natAbs_natCast,Int.natAbs_natCast] at q1 q2
 have g0:0 < Nat.gcd x.p y.q:=Nat.gcd_pos_of_pos_left _ b1
 have h0:0 < Nat.gcd y.p x.q:=Nat.gcd_pos_of_pos_left _ b3
 unfold prodR
 unfold timesL at hf ⊢
 obtain ⟨s,p,q,two,five⟩:=x
 obtain ⟨t,P,Q,Two,Five⟩:=y
 dsimp only at *
 have c1:((p:Int)).tdiv (Nat.gcd p Q:Nat) = ((p / Nat.gcd p Q:Nat):Int):=Int.ofNat_tdiv p _ |>.symm
 have c2:((P:Int)).tdiv (Nat.gcd P q:Nat) = ((P / Nat.gcd P q:Nat):Int):=Int.ofNat_tdiv P _ |>.symm
 have c3:((q:Int)).tdiv (Nat.gcd P q:Nat) = ((q / Nat.gcd P q:Nat):Int):=Int.ofNat_tdiv q _ |>.symm
 have c4:((Q:Int)).tdiv (Nat.gcd p Q:Nat) = ((Q / Nat.gcd p Q:Nat):Int):=Int.ofNat_tdiv Q _ |>.symm
 have l1:=Nat.div_le_self p (Nat.gcd p Q)
 have l2:=Nat.div_le_self P (Nat.gcd P q)
 have l3:=Nat.div_le_self q (Nat.gcd P q)
 have l4:=Nat.div_le_self Q (Nat.gcd p Q)
 generalize Nat.gcd p Q = g at *
 generalize Nat.gcd P q = k at *
 generalize p / g = A at *
 generalize P / k = B at *
 generalize q / k = C at *
 generalize Q / g = D at *
 have m1:=mulN (H.to 343) (a:=A) (b:=B) (by omega) (by omega)
 have m2:=mulN (H.to 343) (a:=C) (b:=D) (by omega) (by omega)
 have w1:IntKind.i64.wrap (A:Int) = A:=w64
 have w2:IntKind.i64.wrap (B:Int) = B:=w64
 have w3:IntKind.i64.wrap (C:Int) = C:=w64
 have w4:IntKind.i64.wrap (D:Int) = D:=w64
 have r3:IntKind.i64.wrap (two + Two) = two + Two:=w64
 have r4:IntKind.i64.wrap (five + Five) = five + Five:=w64
 have r5:IntKind.i64.wrap (s * t) = s * t:=w64
 have gz:¬ g = 0:=by omega
 have kz:¬ k = 0:=by omega
 generalize A * B = U at *
 generalize C * D = V at *
 by_cases h1:U ≤ 9223372036854775807
 ·by_cases h2:V ≤ 9223372036854775807
  ·have hf:=hf _ (if_pos ⟨h1,h2⟩)
   rw [if_pos ⟨h1,h2⟩]
   dsimp only
   obtain ⟨u1,u2,u3,u4,u5,_⟩:=gtF_shape (formR ⟨s * t,U,V,two + Two,five + Five⟩ ten)
   rw [u5] at hf ⊢
   simp only [h1,h2,if_true,decide_true] at m1 m2
   simp only [loR] at hf ⊢
   simp [f319,start,EvCall_closed H.c342 rfl,EvCall_closed H.c324 rfl,q1,q2,c1,c2,c3,c4,m1,m2,hf,w1,w2,w3,w4,r3,r4,r5,gz,kz,push_setk,push_setl]
  ·simp only [h1,h2,if_true,if_false,decide_true,decide_false,and_false] at m1 m2 ⊢
   simp only [loR]
   simp [f319,start,EvCall_closed H.c342 rfl,q1,q2,c1,c2,c3,c4,m1,m2,w1,w2,w3,w4,gz,kz,push_setk,push_setl,gtF,gtC]
 ·simp only [h1,if_false,decide_false,false_and] at m1 ⊢
  generalize (if V ≤ 9223372036854775807 then (V:Int) else 0) = v at m2
  generalize decide (V ≤ 9223372036854775807) = w at m2
  simp only [loR]
  simp [f319,start,EvCall_closed H.c342 rfl,q1,q2,c1,c2,c3,c4,m1,m2,w1,w2,w3,w4,gz,kz,push_setk,push_setl,gtF,gtC]
set_option maxRecDepth 20000 in
theorem right318 (H:Has 318 E) {f:Fc} (hf:FcOk f):EvClosed E (.fn (.func 318) [] []) [fcA f] = some (.bool true):=by
 rw [EvClosed_eq H.c318 rfl (vs:=[fcA f]) (by simp [fcA,fcC]),EvFn_eq]
 obtain ⟨num,den,ten⟩:=f
 have z1:=fits323 (H.to 323) num
 by_cases h0:num = 0
 ·obtain ⟨h1,h2⟩:=hf.zero h0
  dsimp only at h1 h2
  subst h0 h1 h2
  rw [decide_eq_true (by omega)] at z1
  simp [f318,start,fcA,fcC,EvCall_closed H.c323 rfl,z1]
 ·have h1:=hf.nt
  have h2:=hf.d2
  have h3:=hf.d5
  have h4:=hf.n10 h0
  have h5:=hf.co h0
  have h6:=hf.t0
  have h7:=hf.t1
  have h8:=hf.d0
  have h9:=hf.dt
  dsimp only at h1 h2 h3 h4 h5 h6 h7 h8 h9
  have z0:(num == 0) = false:=by simpa using h0
  rw [decide_eq_true (by omega)] at z1
  have z2:=gcd342 (H.to 342) (a:=num) (b:=(den:Int)) h1 (by omega)
  rw [Int.natAbs_natCast,show Nat.gcd num.natAbs den = 1 from h5] at z2
  have z3:((den:Int).tmod 2 != 0) = true:=by
   rw [show (den:Int).tmod 2 = ((den % 2:Nat):Int) from (Int.ofNat_tmod den 2).symm]
   simp; omega
  have z4:((den:Int).tmod 5 != 0) = true:=by
   rw [show (den:Int).tmod 5 = ((den % 5:Nat):Int) from (Int.ofNat_tmod den 5).symm]
   simp; omega
  have z5:(num.tmod 10 != 0) = true:=by
   have:(num.tmod 10).natAbs = num.natAbs % 10:=Int.natAbs_tmod num 10
   simp; omega
  have z6:(1:Int) ≤ den:=by omega
  simp [f318,start,fcA,fcC,EvCall_closed H.c323 rfl,EvCall_closed H.c342 rfl,z0,z1,z2,z3,z4,z5,z6,h6,h7]
theorem make301 (H:Has 301 E) {num den ten:Int} (hn:num.natAbs ≤ 9223372036854775807) (hd:den.natAbs ≤ 9223372036854775807) (ht:ten.natAbs ≤ 1000000):
  EvClosed E (.fn (.func 301) [] []) [.int .i64 num,.int .i64 den,.int .i64 ten] = some (gtF (makeF num den ten)):=by
 rw [EvClosed_eq H.c301 rfl (vs:=[.int .i64 num,.int .i64 den,.int .i64 ten]) (by simp),EvFn_eq]
 have h1:=fits323 (H.to 323) num
 have h2:=fits323 (H.to 323) den
 rw [decide_eq_true (by omega)] at h1 h2
 unfold makeF
 by_cases d0:den = 0
 ·subst d0
  simp [f301,start,EvCall_closed H.c323 rfl,h1,h2,push_setk,gtF,gtC]
 ·have d0':(den == 0) = false:=by simpa using d0
  by_cases n0:num = 0
  ·subst n0
   simp [f301,start,EvCall_closed H.c323 rfl,h1,h2,push_setk,gtF,gtC,fcC,d0,d0']
  ·have n0':(num == 0) = false:=by simpa using n0
   have hl:=of320 (H.to 320) n0 d0 hn hd
   obtain ⟨k,kb⟩:=loosen_ok n0 d0 hn hd
   have hf:=form324 (H.to 324) k (by omega) (by omega) (ten:=ten) ht
   have e:(if ten < -2000∨2000 < ten then Except.error 10 else overE (formL (loosen num den) ten)) = formR (loosen num den) ten:=rfl
   rw [if_neg d0,if_neg n0,e]
   obtain ⟨u1,u2,u3,u4,u5,_⟩:=gtF_shape (formR (loosen num den) ten)
   rw [u5] at hf ⊢
   simp only [loR] at hl hf
   simp [f301,start,EvCall_closed H.c323 rfl,EvCall_closed H.c320 rfl,EvCall_closed H.c324 rfl,h1,h2,hl,hf,push_setk,d0',n0']
set_option maxRecDepth 20000 in
theorem mul298 (H:Has 298 E) {a b:Fc} (ha:FcOk a) (hb:FcOk b):EvClosed E (.fn (.func 298) [] []) [fcA a,fcA b] = some (gtF (mulF a b)):=by
 rw [EvClosed_eq H.c298 rfl (vs:=[fcA a,fcA b]) (by simp [fcA,fcC]),EvFn_eq]
 have h1:=right318 (H.to 318) ha
 have h2:=right318 (H.to 318) hb
 unfold mulF
 by_cases a0:a.num = 0
 ·simp only [fcA,fcC] at h1 h2 ⊢
  simp only [a0] at h1 ⊢
  simp [f298,start,EvCall_closed H.c318 rfl,h1,h2,push_setk,gtF,gtC,fcC]
 ·have a0':(a.num == 0) = false:=by simpa using a0
  by_cases b0:b.num = 0
  ·simp only [fcA,fcC] at h1 h2 ⊢
   simp only [b0] at h2 ⊢
   simp [f298,start,EvCall_closed H.c318 rfl,h1,h2,push_setk,gtF,gtC,fcC,a0,a0']
  ·have b0':(b.num == 0) = false:=by simpa using b0
   have ad:(a.den:Int) ≠ 0:=by have:=ha.d0; omega
   have bd:(b.den:Int) ≠ 0:=by have:=hb.d0; omega
   have l1:=of320 (H.to 320) a0 ad ha.nt (by have:=ha.dt; omega)
   have l2:=of320 (H.to 320) b0 bd hb.nt (by have:=hb.dt; omega)
   obtain ⟨k1,kb1⟩:=loosen_ok a0 ad ha.nt (by have:=ha.dt; omega)
   obtain ⟨k2,kb2⟩:=loosen_ok b0 bd hb.nt (by have:=hb.dt; omega)
   have t1:=ha.t0; have t2:=ha.t1; have t3:=hb.t0; have t4:=hb.t1
   have hp:=times319 (H.to 319) k1 k2 (by omega) (by omega) (by omega) (by omega) (ten:=a.ten + b.ten) (by omega)
   rw [prodR_in (by omega) (by omega)] at hp
   have w:IntKind.i64.wrap (a.ten + b.ten) = a.ten + b.ten:=w64
   obtain ⟨u1,u2,u3,u4,u5,_⟩:=gtF_shape (prodL (loosen a.num a.den) (loosen b.num b.den) (a.ten + b.ten))
   simp only [a0,b0,if_false,or_self,u5] at hp ⊢
   simp only [loR,fcA,fcC] at *
   simp [f298,start,EvCall_closed H.c318 rfl,h1,h2,l1,l2,hp,w,push_setk,a0',b0']
end Go.Pv
