/- A part of the proof: functions of the program in the evaluator's code, and what they come to. Conditions: none; definitions and theorems that the statement's proof uses. -/
import Derived.Test.YtamopjeecnhfaaaGreatDoorSetsPcFr19
/- The reference's fractions: Pow. Conditions: the functions' codes; theorems. -/
namespace Go.Pv
variable {E:Env}
theorem loosen_z {a:Fc} (ha:FcOk a) (h0:a.num ≠ 0):0 ≤ (loosen a.num a.den).two∧0 ≤ (loosen a.num a.den).five∧((loosen a.num a.den).two = 0∨(loosen a.num a.den).five = 0):=by
 have e3:two5 a.den = (0,0,a.den):=by
  have:=two5_is (a:=0) (b:=0) ha.d2 ha.d5 (by simp; have:=ha.dt; omega)
  simpa using this
 have A:=two5_spec (n:=a.num.natAbs) (by omega) ha.nt
 have h10:=ha.n10 h0
 have e1:(loosen a.num a.den).two = ((two5 a.num.natAbs).1:Int):=by unfold loosen; dsimp only; rw [Int.natAbs_natCast,e3]; simp
 have e2:(loosen a.num a.den).five = ((two5 a.num.natAbs).2.1:Int):=by unfold loosen; dsimp only; rw [Int.natAbs_natCast,e3]; simp
 rw [e1,e2]
 refine ⟨by omega,by omega,?_⟩
 have he:=A.eq
 generalize (two5 a.num.natAbs).1 = u at *
 generalize (two5 a.num.natAbs).2.1 = v at *
 generalize (two5 a.num.natAbs).2.2 = m at *
 cases u with
 | zero=>left; rfl
 | succ u=>
  cases v with
  | zero=>right; rfl
  | succ v=>
   exfalso
   apply h10
   rw [he]
   have:2 ^ (u + 1) * (5 ^ (v + 1) * m) = 10 * (2 ^ u * (5 ^ v * m)):=by
    rw [Nat.pow_succ,Nat.pow_succ]
    rw [show (10:Nat) = 2 * 5 from rfl]
    ac_rfl
   rw [this,Nat.mul_mod_right]
theorem lt_pow63 {n:Nat} (h:2 ^ n ≤ 9223372036854775807):n ≤ 62:=by
 rcases Nat.lt_or_ge n 63 with h' | h'
 ·omega
 ·have:=Nat.pow_le_pow_right (n:=2) (by omega) h'
  omega
theorem formN_gap {x:Lo} (hx:LoOk x) (h:formN x ≤ 9223372036854775807):(x.two - x.five).natAbs ≤ 62:=by
 have hp:=hx.p0
 rcases Int.le_total x.two x.five with hl | hl
 ·rw [formN_l hl] at h
  have h1:5 ^ (x.five - x.two).toNat ≤ x.p * 5 ^ (x.five - x.two).toNat:=Nat.le_mul_of_pos_left _ hp
  have h2:2 ^ (x.five - x.two).toNat ≤ 5 ^ (x.five - x.two).toNat:=Nat.pow_le_pow_left (by omega) _
  have:=lt_pow63 (n:=(x.five - x.two).toNat) (by omega)
  omega
 ·rw [formN_r2 hl] at h
  have h1:2 ^ (x.two - x.five).toNat ≤ x.p * 2 ^ (x.two - x.five).toNat:=Nat.le_mul_of_pos_left _ hp
  have:=lt_pow63 (n:=(x.two - x.five).toNat) (by omega)
  omega
theorem formR_z {x:Lo} (hx:LoOk x) (hz:x.two = 0∨x.five = 0) (ten:Int):formR x ten = overE (formL x ten):=by
 unfold formR
 split
 ·rename_i h
  unfold formL
  rw [if_neg]
  ·rfl
  ·rintro ⟨h1,h2,h3⟩
   have:=formN_gap hx h1
   omega
 ·rfl
theorem powLo_z {a:Fc} (ha:FcOk a) (h0:a.num ≠ 0) (n:Int):(powLo a n).two = 0∨(powLo a n).five = 0:=by
 obtain ⟨_,_,h⟩:=loosen_z ha h0
 unfold powLo
 split
 ·rcases h with h | h
  ·left; show -(loosen a.num a.den).two = 0; omega
  ·right; show -(loosen a.num a.den).five = 0; omega
 ·exact h
theorem powL_z {x y:Lo} {n:Nat} (hx:x.two = 0∨x.five = 0) (h:powL x n = some y):y.two = 0∨y.five = 0:=by
 obtain ⟨e1,e2⟩:=powL_te h
 rcases hx with h | h
 ·left; rw [e1,h]; simp
 ·right; rw [e2,h]; simp
theorem set_same (h:AHeap) (b:Nat) (x y:ABlk):(h.setBlk b x).setBlk b y = h.setBlk b y:=by simp [AHeap.setBlk]
structure PowH (x:Lo) (T V:Int) (i:Nat) (h:AHeap):Prop where
 ro:h.ro = 0
 b1:h.bl 1 = some (.cells z4C)
 b2:h.bl 2 = some (.cells (loR x))
 b3:h.bl 3 = some (.cells [.int .i64 (x.s ^ i),.int .i64 (x.p ^ i:Nat),.int .i64 (x.q ^ i:Nat),.int .i64 T,.int .i64 V])
set_option maxRecDepth 20000 in
set_option maxHeartbeats 1000000 in
theorem powr_loop (H:Has 343 E) {x:Lo} (hx:LoOk x) {T V:Int} {n:Nat} (hn:n ≤ 99) {t7:AV}:∀ (r i:Nat) (h:AHeap),i + r = n→x.p ^ i ≤ 9223372036854775807→x.q ^ i ≤ 9223372036854775807→PowH x T V i h →
  (x.p ^ n ≤ 9223372036854775807→x.q ^ n ≤ 9223372036854775807→∃ h',(∀ F,mask k332_0 F = s332_0 (.int .i64 n) (.ref 1 0) (.ref 2 0) t7 (.ref 3 0) (.int .i64 i) →
   EvCode E (.loop k332_0 l332_0) F h = some (.exit 0,x332_0 (.ref 1 0) t7 (.ref 3 0),h'))∧PowH x T V n h') ∧
  (¬ (x.p ^ n ≤ 9223372036854775807∧x.q ^ n ≤ 9223372036854775807)→∃ h',(∀ F,mask k332_0 F = s332_0 (.int .i64 n) (.ref 1 0) (.ref 2 0) t7 (.ref 3 0) (.int .i64 i) →
   EvCode E (.loop k332_0 l332_0) F h = some (.ret,r332 (.ref 1 0),h'))∧h'.bl 1 = some (.cells [.int .i64 0,.int .i64 0,.int .i64 0,.int .i64 10])):=by
 intro r
 induction r with
 | zero=>
  intro i h hi h0 hm hh
  have hi':i = n:=by omega
  subst hi'
  constructor
  ·intro _ _
   refine ⟨h,fun F hF=>?_,hh⟩
   rw [EvCode_loop,hF]
   simp [l332_0,s332_0,x332_0]
  ·intro h; exact absurd ⟨h0,hm⟩ h
 | succ r ih=>
  intro i h hi h0 hm hh
  have hlt:i < n:=by omega
  have hw:IntKind.i64.wrap ((i:Int) + 1) = ((i + 1:Nat):Int):=w64
  have hq1:=mulN H (a:=x.p ^ i) (b:=x.p) h0 hx.pt
  have hq2:=mulN H (a:=x.q ^ i) (b:=x.q) hm hx.qt
  rw [← Nat.pow_succ] at hq1 hq2
  have hss:IntKind.i64.wrap (x.s ^ i * x.s) = x.s ^ (i + 1):=by
   rw [← Int.pow_succ]
   rcases pow_s hx.s (i + 1) with h | h <;> rw [h] <;> exact w64
  have hlen:=blk_lt hh.b3
  have n1:¬ 1 = h.blks.length:=by omega
  have n2:¬ 2 = h.blks.length:=by omega
  have n3:¬ 3 = h.blks.length:=by omega
  have n1':¬ 1 = h.blks.length + 1:=by omega
  have n2':¬ 2 = h.blks.length + 1:=by omega
  have n3':¬ 3 = h.blks.length + 1:=by omega
  have hne:¬ h.blks = []:=by intro h'; rw [h'] at hlen; simp at hlen
  have hro:=hh.ro
  have hb1:=hh.b1
  have hb2:=hh.b2
  have hb3:=hh.b3
  have big:∀ {a:Nat},0 < a→9223372036854775807 < a ^ (i + 1)→9223372036854775807 < a ^ n:=fun {a} ha h=>by
   have:a ^ (i + 1) ≤ a ^ n:=Nat.pow_le_pow_right ha (by omega)
   omega
  simp only [loR] at hb2
  by_cases ho:x.p ^ (i + 1) ≤ 9223372036854775807∧x.q ^ (i + 1) ≤ 9223372036854775807
  ·have hh':PowH x T V (i + 1) (((h.push (.cells [.int .i64 (x.p ^ (i + 1):Nat),.bool true])).push (.cells [.int .i64 (x.q ^ (i + 1):Nat),.bool true])).setBlk 3 (.cells [.int .i64 (x.s ^ (i + 1)),.int .i64 (x.p ^ (i + 1):Nat),.int .i64 (x.q ^ (i + 1):Nat),.int .i64 T,.int .i64 V])):=
    ⟨by simp [hro],by simp [n1,hb1,hne],by simp [n2,n2',hb2,loR],by simp [n3,n3',hb3]⟩
   have ih':=ih (i + 1) _ (by omega) ho.1 ho.2 hh'
   simp only [ho.1,ho.2,if_true,decide_true] at hq1 hq2
   generalize ((x.p ^ (i + 1):Nat):Int) = P at *
   generalize ((x.q ^ (i + 1):Nat):Int) = Q at *
   generalize ((x.p ^ i:Nat):Int) = P0 at *
   generalize ((x.q ^ i:Nat):Int) = Q0 at *
   generalize x.s ^ (i + 1) = S at *
   constructor
   ·intro hle1 hle2
    obtain ⟨h',a1,a2⟩:=ih'.1 hle1 hle2
    refine ⟨h',fun F hF=>?_,a2⟩
    rw [EvCode_loop,hF]
    generalize EvCode E (.loop k332_0 l332_0) = lp at a1 ⊢
    simp [l332_0,s332_0,hlt,hw,hss,EvCall_closed H.c343 rfl,hq1,hq2,push_setk,hro,n2,n3,n2',n3',hb2,hb3,set_same]
    exact a1 _ (by simp [s332_0])
   ·intro hle
    obtain ⟨h',a1,a2⟩:=ih'.2 hle
    refine ⟨h',fun F hF=>?_,a2⟩
    rw [EvCode_loop,hF]
    generalize EvCode E (.loop k332_0 l332_0) = lp at a1 ⊢
    simp [l332_0,s332_0,hlt,hw,hss,EvCall_closed H.c343 rfl,hq1,hq2,push_setk,hro,n2,n3,n2',n3',hb2,hb3,set_same]
    exact a1 _ (by simp [s332_0])
  ·refine ⟨fun h1 h2=>absurd (⟨?_,?_⟩:x.p ^ (i + 1) ≤ 9223372036854775807∧x.q ^ (i + 1) ≤ 9223372036854775807) ho,fun _=>?_⟩
   ·rcases Nat.lt_or_ge 9223372036854775807 (x.p ^ (i + 1)) with h' | h'
    ·have:=big hx.p0 h'; omega
    ·exact h'
   ·rcases Nat.lt_or_ge 9223372036854775807 (x.q ^ (i + 1)) with h' | h'
    ·have:=big hx.q0 h'; omega
    ·exact h'
   ·obtain ⟨u,u',hu⟩:∃ (u u':Int),EvClosed E (.fn (.func 343) [] []) [.int .i64 (x.p ^ i:Nat),.int .i64 x.p] = some (.agg [.int .i64 u,.bool (decide (x.p ^ (i + 1) ≤ 9223372036854775807))]) ∧
      EvClosed E (.fn (.func 343) [] []) [.int .i64 (x.q ^ i:Nat),.int .i64 x.q] = some (.agg [.int .i64 u',.bool (decide (x.q ^ (i + 1) ≤ 9223372036854775807))]):=⟨_,_,hq1,hq2⟩
    refine ⟨((h.push (.cells [.int .i64 u,.bool (decide (x.p ^ (i + 1) ≤ 9223372036854775807))])).push (.cells [.int .i64 u',.bool (decide (x.q ^ (i + 1) ≤ 9223372036854775807))])).setBlk 1 (.cells [.int .i64 0,.int .i64 0,.int .i64 0,.int .i64 10]),fun F hF=>?_,by simp [n1,hb1,hne]⟩
    obtain ⟨hu1,hu2⟩:=hu
    clear hq1 hq2
    rw [EvCode_loop,hF]
    generalize EvCode E (.loop k332_0 l332_0) = lp
    generalize ((x.p ^ i:Nat):Int) = P0 at *
    generalize ((x.q ^ i:Nat):Int) = Q0 at *
    by_cases o1:x.p ^ (i + 1) ≤ 9223372036854775807
    ·have o2:¬ x.q ^ (i + 1) ≤ 9223372036854775807:=fun h=>ho ⟨o1,h⟩
     simp only [o1,o2,decide_true,decide_false] at hu1 hu2 ⊢
     simp [l332_0,s332_0,hlt,EvCall_closed H.c343 rfl,hu1,hu2,push_setk,hro,hne,n1,n2,n3,hb1,hb2,hb3,r332]
    ·simp only [o1,decide_false] at hu1 ⊢
     generalize decide (x.q ^ (i + 1) ≤ 9223372036854775807) = bb at *
     simp [l332_0,s332_0,hlt,EvCall_closed H.c343 rfl,hu1,hu2,push_setk,hro,hne,n1,n2,n3,hb1,hb2,hb3,r332]
end Go.Pv
/- The reference's fractions: Pow. Conditions: the functions' codes; theorems. -/
namespace Go.Pv
variable {E:Env}
set_option maxRecDepth 20000 in
set_option maxHeartbeats 2000000 in
theorem pow332 (H:Has 332 E) {a:Fc} (ha:FcOk a) {n:Int} (h1:-99 ≤ n) (h2:n ≤ 99):EvClosed E (.fn (.func 332) [] []) [fcA a,.int .i64 n] = some (gtF (powF a n)):=by
 rw [EvClosed_eq H.c332 rfl (vs:=[fcA a,.int .i64 n]) (by simp [fcA,fcC]),EvFn_eq]
 have q1:=right318 (H.to 318) ha
 have c1:¬ n < -99:=by omega
 have c2:¬ 99 < n:=by omega
 by_cases a0:a.num = 0
 ·obtain ⟨z1,z2⟩:=ha.zero a0
  obtain ⟨num,den,ten⟩:=a
  dsimp only at a0 z1 z2
  subst a0 z1 z2
  simp only [fcA,fcC,show ((1:Nat):Int) = 1 from rfl] at q1 ⊢
  unfold powF
  by_cases hn:n < 0
  ·simp [f332,start,EvCall_closed H.c318 rfl,q1,c1,c2,hn,push_setk,gtF,gtC]
  ·by_cases hz:n = 0
   ·subst hz
    simp [f332,start,EvCall_closed H.c318 rfl,q1,push_setk,gtF,gtC,fcC]
   ·have hz':(n == 0) = false:=by simpa using hz
    simp [f332,start,EvCall_closed H.c318 rfl,q1,c1,c2,hn,hz,hz',push_setk,gtF,gtC,fcC]
 ·have a0':(a.num == 0) = false:=by simpa using a0
  by_cases hz:n = 0
  ·subst hz
   simp only [fcA,fcC] at q1 ⊢
   unfold powF
   simp [f332,start,EvCall_closed H.c318 rfl,q1,a0,a0',push_setk,gtF,gtC,fcC]
  ·have hz':(n == 0) = false:=by simpa using hz
   rw [powF_c a0 hz]
   have ad:(a.den:Int) ≠ 0:=by have:=ha.d0; omega
   have l1:=of320 (H.to 320) a0 ad ha.nt (by have:=ha.dt; omega)
   obtain ⟨k1,kb1⟩:=loosen_ok a0 ad ha.nt (by have:=ha.dt; omega)
   obtain ⟨ok,b2,b5⟩:=powLo_ok ha a0 n
   have hzz:=powLo_z ha a0 n
   have hi:=turned322 (H.to 322) (x:=loosen a.num a.den) (by omega) (by omega)
   have t0:=ha.t0; have t1:=ha.t1
   have tb:(a.ten * n).natAbs ≤ 1000 * 99:=by rw [Int.natAbs_mul]; exact Nat.mul_le_mul (by omega) (by omega)
   have w1:IntKind.i64.wrap (a.ten * n) = a.ten * n:=w64
   have w2:IntKind.i64.wrap (-n) = -n:=w64
   have m1:=mul_bd b2 (n:=n.natAbs) (by omega)
   have m2:=mul_bd b5 (n:=n.natAbs) (by omega)
   have w3:IntKind.i64.wrap ((powLo a n).two * (n.natAbs:Int)) = (powLo a n).two * (n.natAbs:Int):=w64
   have w4:IntKind.i64.wrap ((powLo a n).five * (n.natAbs:Int)) = (powLo a n).five * (n.natAbs:Int):=w64
   have hf:∀ z,powL (powLo a n) n.natAbs = some z→EvClosed E (.fn (.func 324) [] []) [.agg (loR z),.int .i64 (a.ten * n)] = some (gtF (overE (formL z (a.ten * n)))):=fun z hz2=>by
    obtain ⟨e1,e2⟩:=powL_te hz2
    have:=form324 (H.to 324) (powL_ok ok hz2) (by omega) (by omega) (ten:=a.ten * n) (by omega)
    rw [formR_z (powL_ok ok hz2) (powL_z hzz hz2)] at this
    exact this
   generalize hT:(powLo a n).two * (n.natAbs:Int) = T at *
   generalize hV:(powLo a n).five * (n.natAbs:Int) = V at *
   have hl:=fun x0 (hx0:x0 = ABlk.cells (fcC a))=>powr_loop (H.to 343) ok (T:=T) (V:=V) (n:=n.natAbs) (by omega) (t7:=.int .i64 (a.ten * n)) n.natAbs 0 ((((heap0.push x0).push (.cells z4C)).push (.cells (loR (powLo a n)))).push (.cells [.int .i64 1,.int .i64 1,.int .i64 1,.int .i64 T,.int .i64 V])) (by omega) (by simp) (by simp) ⟨rfl,by simp,by simp,by simp⟩
   have hl:=hl _ rfl
   have hab:((n.natAbs:Nat):Int) = if n < 0 then -n else n:=by split <;> omega
   rw [hab] at hl hT hV
   simp only [Int.natCast_zero] at hl
   have hpl:∀ z,powL (powLo a n) n.natAbs = some z→z = ⟨(powLo a n).s ^ n.natAbs,(powLo a n).p ^ n.natAbs,(powLo a n).q ^ n.natAbs,T,V⟩∧(powLo a n).p ^ n.natAbs ≤ 9223372036854775807∧(powLo a n).q ^ n.natAbs ≤ 9223372036854775807:=fun z hz2=>by
    unfold powL at hz2
    split at hz2
    ·rename_i hc
     cases hz2
     rw [hab,hT,hV]
     exact ⟨rfl,hc.1,hc.2⟩
    ·cases hz2
   have hpn:powL (powLo a n) n.natAbs = none→¬ ((powLo a n).p ^ n.natAbs ≤ 9223372036854775807∧(powLo a n).q ^ n.natAbs ≤ 9223372036854775807):=fun hz2=>by
    unfold powL at hz2
    split at hz2
    ·cases hz2
    ·rename_i hc
     exact hc
   by_cases hn:n < 0
   ·simp only [hn,if_true] at hl hT hV
    have e:powLo a n = invL (loosen a.num a.den):=by unfold powLo; rw [if_pos hn]
    rw [e] at hl hf hpl hpn hT hV ⊢
    clear ok b2 b5 e hab kb1 k1 hzz m1 m2
    generalize invL (loosen a.num a.den) = Y at *
    generalize loosen a.num a.den = X at *
    generalize hTT:a.ten * n = TT at *
    have w1:IntKind.i64.wrap (a.ten * n) = TT:=by rw [hTT]; exact w1
    cases hp:powL Y n.natAbs with
    | none=>
     obtain ⟨h',a1,a2⟩:=hl.2 (hpn hp)
     clear hf hp hpl hpn hl
     simp only [loR,fcA,fcC] at *
     simp [f332,start,EvCall_closed H.c318 rfl,EvCall_closed H.c320 rfl,EvCall_closed H.c322 rfl,q1,l1,hi,a0',c1,c2,hn,hz',w1,w2,hT,hV,w3,w4,push_setk]
     rw [a1 _ (by simp [s332_0])]
     simp [r332,a2,gtF,gtC]
    | some z=>
     obtain ⟨e1,e2,e3⟩:=hpl z hp
     obtain ⟨h',a1,a2⟩:=hl.1 e2 e3
     have b3:=a2.b3
     have b1:=a2.b1
     have ro:=a2.ro
     have hf:=hf z hp
     obtain ⟨u1,u2,u3,u4,u5,_⟩:=gtF_shape (overE (formL z TT))
     simp only [u5] at hf ⊢
     subst e1
     clear hp hpl hpn hl a2
     generalize Y.s ^ n.natAbs = s1 at *
     generalize Y.p ^ n.natAbs = s2 at *
     generalize Y.q ^ n.natAbs = s3 at *
     simp only [loR,fcA,fcC] at *
     simp [f332,start,EvCall_closed H.c318 rfl,EvCall_closed H.c320 rfl,EvCall_closed H.c322 rfl,q1,l1,hi,a0',c1,c2,hn,hz',w1,w2,hT,hV,w3,w4,push_setk]
     rw [a1 _ (by simp [s332_0])]
     simp [x332_0,EvCall_closed H.c324 rfl,hf,b1,b3,ro]
   ·simp only [hn,if_false] at hl hT hV
    have e:powLo a n = loosen a.num a.den:=by unfold powLo; rw [if_neg hn]
    rw [e] at hl hf hpl hpn hT hV ⊢
    clear ok b2 b5 e hab kb1 k1 hzz m1 m2 hi
    generalize loosen a.num a.den = X at *
    generalize hTT:a.ten * n = TT at *
    have w1:IntKind.i64.wrap (a.ten * n) = TT:=by rw [hTT]; exact w1
    cases hp:powL X n.natAbs with
    | none=>
     obtain ⟨h',a1,a2⟩:=hl.2 (hpn hp)
     clear hf hp hpl hpn hl
     simp only [loR,fcA,fcC] at *
     simp [f332,start,EvCall_closed H.c318 rfl,EvCall_closed H.c320 rfl,q1,l1,a0',c1,c2,hn,hz',w1,hT,hV,w3,w4,push_setk]
     rw [a1 _ (by simp [s332_0])]
     simp [r332,a2,gtF,gtC]
    | some z=>
     obtain ⟨e1,e2,e3⟩:=hpl z hp
     obtain ⟨h',a1,a2⟩:=hl.1 e2 e3
     have b3:=a2.b3
     have b1:=a2.b1
     have ro:=a2.ro
     have hf:=hf z hp
     obtain ⟨u1,u2,u3,u4,u5,_⟩:=gtF_shape (overE (formL z TT))
     simp only [u5] at hf ⊢
     subst e1
     clear hp hpl hpn hl a2
     generalize X.s ^ n.natAbs = s1 at *
     generalize X.p ^ n.natAbs = s2 at *
     generalize X.q ^ n.natAbs = s3 at *
     simp only [loR,fcA,fcC] at *
     simp [f332,start,EvCall_closed H.c318 rfl,EvCall_closed H.c320 rfl,q1,l1,a0',c1,c2,hn,hz',w1,hT,hV,w3,w4,push_setk]
     rw [a1 _ (by simp [s332_0])]
     simp [x332_0,EvCall_closed H.c324 rfl,hf,b1,b3,ro]
end Go.Pv
/- The reference's dims: Right, Add, Times. Conditions: the functions' codes; theorems. -/
namespace Go.Pv
variable {E:Env}
theorem dref_loop {d:List Int} (hd:d.length = 7):∀ (r i:Nat) (F:Fr),i + r = 7→mask k321_0 F = s321_0 (.ref 0 0) (.int .i64 i) →
  EvCode E (.loop k321_0 l321_0) F (heap0.push (.cells (dC d))) = some (if dOk (d.drop i) then (.exit 0,x321_0,heap0.push (.cells (dC d))) else (.ret,r321 (.bool false),heap0.push (.cells (dC d)))):=by
 intro r
 induction r with
 | zero=>
  intro i F hi hF
  have hi':i = 7:=by omega
  subst hi'
  rw [EvCode_loop,hF]
  have:d.drop 7 = []:=List.drop_eq_nil_of_le (by omega)
  rw [this]
  simp [l321_0,s321_0,x321_0,dOk]
 | succ r ih=>
  intro i F hi hF
  have hlt:i < d.length:=by omega
  have hw:IntKind.i64.wrap ((i:Int) + 1) = ((i + 1:Nat):Int):=w64
  have h7:(i:Int) < 7:=by omega
  have hA:((dC d).drop i).take 1 = [.int .i64 d[i]]:=dC_at hlt
  have hlen:(dC d).length = 7:=by rw [dC_len,hd]
  have ih':=ih (i + 1)
  rw [EvCode_loop,hF]
  rw [List.drop_eq_getElem_cons hlt]
  generalize EvCode E (.loop k321_0 l321_0) = lp at ih' ⊢
  generalize hx:d[i] = x at *
  have h71:i + 1 ≤ 7:=by omega
  by_cases o1:x < -99
  ·have e:dOk (x :: d.drop (i + 1)) = false:=by simp [dOk,dOk1]; omega
   rw [e]
   generalize dC d = A at *
   simp [l321_0,s321_0,h7,hlen,hA,h71,o1,r321]
  ·by_cases o2:99 < x
   ·have e:dOk (x :: d.drop (i + 1)) = false:=by simp [dOk,dOk1]; omega
    rw [e]
    generalize dC d = A at *
    simp [l321_0,s321_0,h7,hlen,hA,h71,o1,o2,r321]
   ·have e:dOk (x :: d.drop (i + 1)) = dOk (d.drop (i + 1)):=by
     have:dOk1 x = true:=by simp [dOk1]; omega
     simp [dOk,this]
    rw [e]
    generalize dC d = A at *
    simp [l321_0,s321_0,h7,hlen,hA,hw,h71,o1,o2]
    exact ih' _ (by omega) (by simp [s321_0])
theorem dref_right (H:Has 321 E) {d:List Int} (hd:d.length = 7):EvClosed E (.fn (.func 321) [] []) [.agg (dC d)] = some (.bool (dOk d)):=by
 rw [EvClosed_eq H.c321 rfl (vs:=[.agg (dC d)]) (by simp [shutL_dC]),EvFn_eq]
 have hlen:(dC d).length = 7:=by rw [dC_len,hd]
 have hl:=fun F hF=>dref_loop (E:=E) hd 7 0 F (by omega) hF
 simp only [List.drop_zero,Int.natCast_zero] at hl
 generalize dC d = A at *
 cases hk:dOk d with
 | true=>
  rw [hk] at hl
  simp [f321,start,hlen]
  rw [hl _ (by simp [s321_0])]
  simp [x321_0]
 | false=>
  rw [hk] at hl
  simp [f321,start,hlen]
  rw [hl _ (by simp [s321_0])]
  simp [r321]
def gtD (d:List Int):AV:=.agg (dC (if dOk d then d else d0)++[.bool (dOk d)])
abbrev z8C:List AV:=[.int .i64 0,.int .i64 0,.int .i64 0,.int .i64 0,.int .i64 0,.int .i64 0,.int .i64 0,.bool false]
abbrev h4 (x y z u:ABlk):AHeap:=(((heap0.push x).push y).push z).push u
theorem dC_set (w:List Int) (i:Nat) (v:Int):(dC w).set i (.int .i64 v) = dC (w.set i v):=by
 unfold dC
 rw [List.map_set]
structure UpTo (v w:List Int) (i:Nat):Prop where
 len:w.length = v.length
 lo:∀ j,j < i→w[j]? = v[j]?
 hi:∀ j,i ≤ j→j < v.length→w[j]? = some 0
theorem UpTo.next {v w:List Int} {i:Nat} (h:UpTo v w i) (hi:i < v.length):UpTo v (w.set i v[i]) (i + 1):=by
 refine ⟨by simp [h.len],fun j hj=>?_,fun j hj hv=>?_⟩
 ·rw [List.getElem?_set]
  by_cases hji:i = j
  ·subst hji; simp [h.len,hi]
  ·rw [if_neg hji]; exact h.lo j (by omega)
 ·rw [List.getElem?_set,if_neg (by omega)]
  exact h.hi j (by omega) hv
theorem UpTo.same {v w:List Int} {i:Nat} (h:UpTo v w i) (hi:i < v.length) (hz:v[i] = 0):UpTo v w (i + 1):=by
 refine ⟨h.len,fun j hj=>?_,fun j hj hv=>h.hi j (by omega) hv⟩
 by_cases hji:i = j
 ·subst hji; rw [h.hi i (by omega) hi,List.getElem?_eq_getElem hi,hz]
 ·exact h.lo j (by omega)
theorem UpTo.all {v w:List Int} (h:UpTo v w v.length):w = v:=by
 apply List.ext_getElem? 
 intro j
 by_cases hj:j < v.length
 ·exact h.lo j hj
 ·rw [List.getElem?_eq_none (by rw [h.len]; omega),List.getElem?_eq_none (by omega)]
theorem dref_add_loop {a b:List Int} (ha:a.length = 7) (hb:b.length = 7) (oa:dOk a = true) (ob:dOk b = true) {n:Int} (hn:n = 1∨n = -1) {v:List Int} (hv:v.length = 7) (hva:∀ i (h:i < 7),v[i] = a[i] + n * b[i]):∀ (r i:Nat) (w:List Int) (F:Fr),i + r = 7→UpTo v w i →
  mask k299_0 F = s299_0 (.int .i64 n) (.ref 0 0) (.ref 1 0) (.ref 2 0) (.ref 3 0) (.int .i64 i) →
  EvCode E (.loop k299_0 l299_0) F (h4 (.cells (dC a)) (.cells (dC b)) (.cells z8C) (.cells (dC w))) = some (.exit 0,x299_0 (.ref 2 0) (.ref 3 0),h4 (.cells (dC a)) (.cells (dC b)) (.cells z8C) (.cells (dC v))):=by
 intro r
 induction r with
 | zero=>
  intro i w F hi hu hF
  have hi':i = 7:=by omega
  subst hi'
  rw [← hv] at hu
  have:=hu.all
  subst this
  rw [EvCode_loop,hF]
  simp [l299_0,s299_0,x299_0]
 | succ r ih=>
  intro i w F hi hu hF
  have hlt:i < 7:=by omega
  have hw:IntKind.i64.wrap ((i:Int) + 1) = ((i + 1:Nat):Int):=w64
  have h7:(i:Int) < 7:=by omega
  have e1:=dC_at (d:=a) (i:=i) (by omega)
  have e2:=dC_at (d:=b) (i:=i) (by omega)
  have r1:=dOk_get oa (i:=i) (by omega)
  have r2:=dOk_get ob (i:=i) (by omega)
  have l1:(dC a).length = 7:=by rw [dC_len,ha]
  have l2:(dC b).length = 7:=by rw [dC_len,hb]
  have l3:(dC w).length = 7:=by rw [dC_len,hu.len,hv]
  have hvi:=hva i hlt
  have ih':=fun F hF=>ih (i + 1) _ F (by omega) (hu.next (by omega)) hF
  have hds:=dC_set w i v[i]
  have h71:i + 1 ≤ 7:=by omega
  rw [EvCode_loop,hF]
  rw [← hds] at ih'
  rw [hvi] at ih'
  generalize EvCode E (.loop k299_0 l299_0) = lp at ih' ⊢
  generalize a[i] = x at *
  generalize b[i] = y at *
  have hny:n * y = y∨n * y = -y:=by rcases hn with h | h <;> subst h <;> simp
  have w1:IntKind.i64.wrap (n * y) = n * y:=w64
  have w2:IntKind.i64.wrap (x + n * y) = x + n * y:=w64
  clear hds hvi hva hu oa ob
  generalize dC a = A at *
  generalize dC b = B at *
  generalize dC w = W at *
  simp [l299_0,s299_0,h7,l1,l2,l3,e1,e2,hw,h71,w1,w2,push_setk]
  exact ih' _ (by simp [s299_0])
end Go.Pv
