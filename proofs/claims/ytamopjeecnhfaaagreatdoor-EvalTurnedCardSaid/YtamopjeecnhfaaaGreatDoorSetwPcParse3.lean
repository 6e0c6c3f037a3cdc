/- A part of the proof: functions of the program in the evaluator's code, and what they come to. Conditions: none; definitions and theorems that the statement's proof uses. -/
import Derived.Test.YtamopjeecnhfaaaGreatDoorSetwPcParse1
/- The parser's steps: what stands there, and goes behind it. Conditions: the functions' codes; theorems. -/
namespace Go.Pv
variable {E:Env} {x sz:Int} {y:Sty} {p nest:Nat} {h:AHeap} {l:List Tok} {u:Option Tok}
theorem is_cell (H:Has 82 E) {lv:AV} {c0 c1 c2 c3 c4 c5 c6 c7 c8 c10:AV} (hb:h.bl p = some (.cells [c0,c1,c2,c3,c4,c5,c6,c7,c8,lv,c10])) (r:RestV lv l) (k:Int):
  EvCall E (.fn (.func 82) [] []) [.ref p 0,.int .i64 k] h = some (.ret (.bool (isT k l)),h):=by
 rw [EvCall_reader H.c82 rfl,EvFn_eq]
 rcases r.len with ⟨rfl,rfl⟩ | ⟨cs,rfl,hcs⟩
 ·simp [f82,start,hb,isT]
 ·cases l with
  | nil=>simp [f82,start,hb,isT]
  | cons t l=>
   have hlt:decide (0 < (l.length:Int) + 1) = true:=decide_eq_true (by omega)
   subst hcs
   simp [f82,start,hb,isT,Tok.cs]
theorem is_ok (H:Has 82 E) (S:PS x sz y p h nest l u) (k:Int):EvCall E (.fn (.func 82) [] []) [.ref p 0,.int .i64 k] h = some (.ret (.bool (isT k l)),h):=by
 obtain ⟨⟨lv,uv,h1,h2,h3⟩,h4,h5⟩:=S
 exact is_cell H h1 h2 k
theorem at_ok (H:Has 70 E) (S:PS x sz y p h nest l u):EvCall E (.fn (.func 70) [] []) [.ref p 0] h = some (.ret (.int .i64 (atT sz l)),h):=by
 obtain ⟨⟨lv,uv,h1,h2,h3⟩,h4,h5⟩:=S
 simp only [parsB] at h1
 rw [EvCall_open H.c70 rfl,EvFn_eq]
 rcases h2.len with ⟨rfl,rfl⟩ | ⟨cs,rfl,hcs⟩
 ·simp [f70,start,h1,atT]
 ·cases l with
  | nil=>simp [f70,start,h1,atT]
  | cons t l=>
   have hlt:¬ (l.length:Int) + 1 = 0:=by omega
   subst hcs
   simp [f70,start,h1,atT,Tok.cs,hlt]
theorem must_ok (H:Has 50 E) (h:AHeap):EvCall E (.fn (.func 50) [] []) [.ref p 0,.bool true] h = some (.ret (.tuple []),h):=by
 rw [EvCall_open H.c50 rfl,EvFn_eq]
 simp [f50,start]
theorem must_bad (H:Has 50 E) (S:PS x sz y p h nest l u):EvCall E (.fn (.func 50) [] []) [.ref p 0,.bool false] h = some (.pan (errV (14,atT sz l)),h):=by
 rw [EvCall_open H.c50 rfl,EvFn_eq]
 have:=at_ok (H.to 70) S
 simp [f50,start,this,errV]
theorem take_ok (H:Has 83 E) {t:Tok} (S:PS x sz y p h nest (t :: l) u):∃ h',EvCall E (.fn (.func 83) [] []) [.ref p 0] h = some (.ret (.agg t.cs),h')∧PS x sz y p h' nest l u∧Stay p h h':=by
 have hp:=S.lt
 obtain ⟨⟨lv,uv,h1,h2,h3⟩,h4,h5⟩:=S
 rw [EvCall_open H.c83 rfl,EvFn_eq]
 rcases h2.len with ⟨_,hq⟩ | ⟨cs,rfl,hcs⟩
 ·cases hq
 ·have n1:¬ p = h.blks.length:=by omega
  have n2:¬ p = h.blks.length + 1:=by omega
  have hm:∀ v uv,(parsB x sz nest y v uv) = .cells [.int .i64 x,.int .i64 sz,.int .i64 nest,.bool y.fold,b8 y.mul,b8 y.div,b8 y.pow,b8 y.opn,b8 y.cls,v,uv]:=fun _ _=>rfl
  have h1':=h1
  rw [hm] at h1'
  have huc:uv.isCell = true:=by
   cases u with
   | none=>rw [h3]; rfl
   | some q=>obtain ⟨b,hb,_⟩:=h3; rw [hb]; rfl
  have hle:(1:Int) ≤ (l.length:Int) + 1:=by omega
  obtain ⟨cl,hcl⟩:∃ cl,l.flatMap Tok.cs = cl:=⟨_,rfl⟩
  have hln:cl.length = l.length * 4:=by rw [← hcl,fm_len Tok.len]
  have hq:cl.length + 1 + 1 + 1 + 1 = (l.length + 1) * 4:=by omega
  have ht:∀ a b c d:AV,List.take ((l.length + 1) * 4) (a :: b :: c :: d :: cl) = a :: b :: c :: d :: cl:=fun a b c d=>List.take_of_length_le (by simp; omega)
  rw [List.flatMap_cons,hcl] at hcs
  subst hcs
  refine ⟨((((h.push (.cells [.int .i64 0,.int .i64 0,.str [],.int .i64 0])).push (.cells t.cs)).setBlk p (parsB x sz nest y (restV l) uv)).setBlk h.blks.length (.cells t.cs)),?_,?_,?_⟩
  ·simp [f83,start,h1',Tok.cs,n1,n2,h4,push_setk,hle,restV,hm,hq,ht,hcl,(by omega:4 ≤ (l.length + 1) * 4),(by omega:0 < (l.length + 1) * 4)]
  ·refine ⟨⟨restV l,uv,?_,.inr rfl,?_⟩,h4,h5⟩
   ·simp [n1,n2,h1']
    omega
   ·have K:Stay p h ((((h.push (.cells [.int .i64 0,.int .i64 0,.str [],.int .i64 0])).push (.cells t.cs)).setBlk p (parsB x sz nest y (restV l) uv)).setBlk h.blks.length (.cells t.cs)):=
     Stay.setNew (((Stay.push p h _).trans (Stay.push p _ _)).trans (Stay.set p _ _)) (Nat.le_refl _)
    exact h3.keep K
  ·exact Stay.setNew (((Stay.push p h _).trans (Stay.push p _ _)).trans (Stay.set p _ _)) (Nat.le_refl _)
theorem may_not (H:Has 68 E) (S:PS x sz y p h nest l u) {k:Int} (hk:isT k l = false):EvCall E (.fn (.func 68) [] []) [.ref p 0,.int .i64 k] h = some (.ret (.bool false),h):=by
 rw [EvCall_open H.c68 rfl,EvFn_eq]
 have:=is_ok (H.to 82) S k
 simp [f68,start,this,hk]
theorem may_ok (H:Has 68 E) {t:Tok} (S:PS x sz y p h nest (t :: l) u) {k:Int} (hk:t.kind = k):∃ h',EvCall E (.fn (.func 68) [] []) [.ref p 0,.int .i64 k] h = some (.ret (.bool true),h')∧PS x sz y p h' nest l u∧Stay p h h':=by
 obtain ⟨h',e,S',K⟩:=take_ok (H.to 83) S
 have:=is_ok (H.to 82) S k
 have hi:isT k (t :: l) = true:=by simp [isT,hk]
 refine ⟨h',?_,S',K⟩
 rw [EvCall_open H.c68 rfl,EvFn_eq]
 simp [f68,start,this,hi,e]
theorem number_ok (H:Has 95 E) (S:PS x sz y p h nest l u) (lo hi:Int):TellsN E x sz y p h nest u 95 [.ref p 0,.int .i64 lo,.int .i64 hi] (numP sz lo hi l):=by
 have hi2:=is_ok (H.to 82) S 2
 have hS:=S
 obtain ⟨⟨lv,uv,h1,h2,h3⟩,h4,h5⟩:=S
 simp only [parsB] at h1
 cases l with
 | nil=>
  refine ⟨h,?_,Stay.refl _ _⟩
  rw [EvCall_open H.c95 rfl,EvFn_eq]
  have hb:=must_bad (H.to 50) hS
  simp [f95,start,hi2,isT,hb]
  rfl
 | cons t l=>
  rcases h2.len with ⟨_,hq⟩ | ⟨cs,rfl,hcs⟩
  ·cases hq
  ·subst hcs
   have hlt:decide (0 < (l.length:Int) + 1) = true:=decide_eq_true (by omega)
   have hb:=must_bad (H.to 50) hS
   have hm:=must_ok (E:=E) (p:=p) (H.to 50) h
   obtain ⟨h',e,S',K⟩:=take_ok (H.to 83) hS
   cases hc:(t.kind == 2 && decide (lo ≤ t.n)) && decide (t.n ≤ hi) with
   | false=>
    simp only [numP,hc,Bool.false_eq_true,if_false]
    refine ⟨h,?_,Stay.refl _ _⟩
    rw [EvCall_open H.c95 rfl,EvFn_eq]
    cases hk:t.kind == 2
    ·simp [f95,start,hi2,isT,hk,hb]
     rfl
    ·cases hl:decide (lo ≤ t.n)
     ·simp [f95,start,hi2,isT,hk,hb,h1,Tok.cs,hl]
      rfl
     ·have hh:decide (t.n ≤ hi) = false:=by simpa [hk,hl] using hc
      simp [f95,start,hi2,isT,hk,hb,h1,Tok.cs,hl,hh]
      rfl
   | true=>
    simp only [Bool.and_eq_true] at hc
    have hi2':isT 2 (t :: l) = true:=by simpa [isT] using hc.1.1
    simp only [numP,hc,Bool.and_self,if_true]
    refine ⟨h',?_,S',K⟩
    rw [EvCall_open H.c95 rfl,EvFn_eq]
    simp [f95,start,hi2,hi2',h1,Tok.cs,hc.1.2,hc.2,hm,e]
end Go.Pv
/- The parser's powers and symbols. Conditions: the functions' codes; theorems. -/
namespace Go.Pv
variable {E:Env} {x sz:Int} {y:Sty} {p nest:Nat} {h:AHeap} {l:List Tok} {u:Option Tok}
theorem is_fn (H:Has 82 E) {lv:AV} {c0 c1 c2 c3 c4 c5 c6 c7 c8 c10:AV} (hb:h.bl p = some (.cells [c0,c1,c2,c3,c4,c5,c6,c7,c8,lv,c10])) (r:RestV lv l) (k:Int):
  EvCall E (.fn (.func 82) [.ref p 0] []) [.int .i64 k] h = some (.ret (.bool (isT k l)),h):=by
 have:=is_cell H hb r k
 rw [EvCall_reader H.c82 rfl] at this ⊢
 exact this
theorem has105 (H:Has 105 E) (H82:Has 82 E) {lv:AV} {c0 c1 c2 c3 c4 c5 c6 c7 c8 c10:AV} (hb:h.bl p = some (.cells [c0,c1,c2,c3,c4,c5,c6,c7,c8,lv,c10])) (r:RestV lv l):
  EvCall E (.fn (.func 105) [] []) [.vs .full 2 [.int .i64 3,.int .i64 2],.fn (.func 82) [.ref p 0] []] h = some (.ret (.int .i64 (if isT 3 l then 0 else if isT 2 l then 1 else -1)),h):=by
 have q3:=is_fn (h:=h.still) H82 (by simpa using hb) r 3
 have q2:=is_fn (h:=h.still) H82 (by simpa using hb) r 2
 rw [EvCall_reader H.c105 rfl,EvFn_eq]
 have w1:IntKind.i64.wrap 1 = 1:=w64
 have w2:IntKind.i64.wrap 2 = 2:=w64
 simp [f105,start]
 rw [EvCode_loop]
 cases h3:isT 3 l
 ·simp [k105_0,l105_0,q3,h3,w1]
  rw [EvCode_loop]
  cases h2:isT 2 l
  ·simp [q2,h2,w2]
   rw [EvCode_loop]
   simp
  ·simp [q2,h2]
 ·simp [k105_0,l105_0,q3,h3]
theorem has103 (H:Has 103 E) (H82:Has 82 E) (S:PS x sz y p h nest l u):
  EvCall E (.fn (.func 103) [] []) [.vs .full 2 [.int .i64 3,.int .i64 2],.fn (.func 82) [.ref p 0] []] h = some (.ret (.bool (isT 3 l || isT 2 l)),h):=by
 obtain ⟨⟨lv,uv,h1,h2,h3⟩,h4,h5⟩:=S
 simp only [parsB] at h1
 have q:=has105 (h:=h.still) (H.to 105) H82 (by simpa using h1) h2
 rw [EvCall_reader H.c103 rfl,EvFn_eq]
 cases q3:isT 3 l <;> cases q2:isT 2 l <;> simp [f103,start,q,q3,q2]
theorem pow_ne (y:Sty):((y.pow.toNat:Int) != 0) = (y.pow != 0):=by
 rw [Bool.eq_iff_iff]
 simp only [bne_iff_ne,ne_eq]
 refine not_congr ⟨fun hq=>UInt8.toNat_inj.1 (by simpa using hq),fun hq=>by rw [hq]; rfl⟩
theorem numP_range {sz lo hi:Int} {l:List Tok} {n:Int} {r:List Tok} (h:numP sz lo hi l = .ok (n,r)):lo ≤ n∧n ≤ hi:=by
 cases l with
 | nil=>simp [numP] at h
 | cons t l=>
  simp only [numP] at h
  split at h
  ·rename_i hc
   simp only [Bool.and_eq_true,decide_eq_true_eq] at hc
   cases h
   exact ⟨hc.1.2,hc.2⟩
  ·cases h
theorem sign_cases (H:Has 101 E) {g:AHeap} {m:List Tok} (S:PS x sz y p g nest m u):
  (∃ e,powN sz m = .error e∧isT 3 m = false∧∃ g',EvCall E (.fn (.func 95) [] []) [.ref p 0,.int .i64 0,.int .i64 99] g = some (.pan (errV e),g')∧Stay p g g') ∨
  (∃ n r,powN sz m = .ok (n,r)∧isT 3 m = false∧∃ g',EvCall E (.fn (.func 95) [] []) [.ref p 0,.int .i64 0,.int .i64 99] g = some (.ret (.int .i64 n),g')∧PS x sz y p g' nest r u∧Stay p g g') ∨
  (∃ t e g1 g',powN sz m = .error e∧isT 3 m = true∧EvCall E (.fn (.func 83) [] []) [.ref p 0] g = some (.ret (.agg (Tok.cs t)),g1)∧EvCall E (.fn (.func 95) [] []) [.ref p 0,.int .i64 0,.int .i64 99] g1 = some (.pan (errV e),g')∧Stay p g g') ∨
  (∃ t n r g1 g',powN sz m = .ok (if t.text == [45] then -n else n,r)∧IntKind.i64.wrap (-n) = -n∧isT 3 m = true∧EvCall E (.fn (.func 83) [] []) [.ref p 0] g = some (.ret (.agg (Tok.cs t)),g1)∧EvCall E (.fn (.func 95) [] []) [.ref p 0,.int .i64 0,.int .i64 99] g1 = some (.ret (.int .i64 n),g')∧PS x sz y p g' nest r u∧Stay p g g'):=by
 have plain:isT 3 m = false→powN sz m = numP sz 0 99 m:=by
  intro h3
  cases m with
  | nil=>rfl
  | cons t r=>
   simp only [isT] at h3
   simp [powN,h3]
 cases h3:isT 3 m with
 | false=>
  have q:=number_ok (H.to 95) S 0 99
  have e:=plain h3
  cases hn:numP sz 0 99 m with
  | error d=>
   rw [hn] at q e
   obtain ⟨g',q1,q2⟩:=q
   exact .inl ⟨d,e,rfl,g',q1,q2⟩
  | ok v=>
   obtain ⟨n,r⟩:=v
   rw [hn] at q e
   obtain ⟨g',q1,q2,q3⟩:=q
   exact .inr (.inl ⟨n,r,e,rfl,g',q1,q2,q3⟩)
 | true=>
  cases m with
  | nil=>cases h3
  | cons t r=>
   obtain ⟨g1,e1,S1,K1⟩:=take_ok (H.to 83) S
   have q:=number_ok (H.to 95) S1 0 99
   have h3':(t.kind == 3) = true:=h3
   cases hn:numP sz 0 99 r with
   | error d=>
    rw [hn] at q
    obtain ⟨g',q1,q2⟩:=q
    exact .inr (.inr (.inl ⟨t,d,g1,g',by simp [powN,h3',hn],rfl,e1,q1,K1.trans q2⟩))
   | ok v=>
    obtain ⟨n,r'⟩:=v
    rw [hn] at q
    obtain ⟨g',q1,q2,q3⟩:=q
    have hr:=numP_range hn
    exact .inr (.inr (.inr ⟨t,n,r',g1,g',by simp [powN,h3',hn],w64,rfl,e1,q1,q2,K1.trans q3⟩))
theorem power_ok (H:Has 101 E) (S:PS x sz y p h nest l u):TellsN E x sz y p h nest u 101 [.ref p 0] (powP (y.pow != 0) sz l):=by
 have hc:=has103 (H.to 103) (H.to 82) S
 have hpw:=pow_ne y
 have hS:=S
 obtain ⟨⟨lv,uv,h1,h2,h3⟩,h4,h5⟩:=S
 simp only [parsB] at h1
 cases hp:y.pow != 0 with
 | false=>
  rw [hp] at hpw
  have hpw':(y.pow.toNat:Int) = 0:=by simpa using hpw
  cases hb:isT 3 l || isT 2 l with
  | false=>
   simp only [powP,hb,Bool.false_eq_true,if_false]
   refine ⟨h,?_,hS,Stay.refl _ _⟩
   rw [EvCall_open H.c101 rfl,EvFn_eq]
   simp [f101,start,hc,hb,h1,hpw']
  | true=>
   have i3:=is_ok (H.to 82) hS 3
   simp only [powP,hb,Bool.false_eq_true,if_false,if_true]
   rw [hb] at hc
   rcases sign_cases H hS with ⟨e,q1,q2,g',q3,q4⟩ | ⟨n,r,q1,q2,g',q3,q4,q5⟩ | ⟨t,e,g1,g',q1,q2,q3,q4,q5⟩ | ⟨t,n,r,g1,g',q1,qw,q2,q3,q4,q5,q6⟩
   ·rw [q1]
    refine ⟨g',?_,q4⟩
    rw [EvCall_open H.c101 rfl,EvFn_eq]
    simp [f101,start,hc,h1,hpw',i3,q2,q3]
   ·rw [q1]
    refine ⟨g',?_,q4,q5⟩
    rw [EvCall_open H.c101 rfl,EvFn_eq]
    simp [f101,start,hc,h1,hpw',i3,q2,q3]
   ·rw [q1]
    refine ⟨g',?_,q5⟩
    rw [EvCall_open H.c101 rfl,EvFn_eq]
    simp [f101,start,hc,h1,hpw',i3,q2,q3,Tok.cs,q4]
   ·rw [q1]
    refine ⟨g',?_,q5,q6⟩
    rw [EvCall_open H.c101 rfl,EvFn_eq]
    cases hm:t.text == [45] <;> simp [f101,start,hc,h1,hpw',i3,q2,q3,Tok.cs,q4,hm,qw]
 | true=>
  rw [hp] at hpw
  have hpw':((y.pow.toNat:Int) != 0) = true:=hpw
  have hpn:¬ y.pow = 0:=by simpa using hp
  have hpi:¬ (y.pow.toNat:Int) = 0:=by simpa using hpw
  have hpt:¬ y.pow.toNat = 0:=by omega
  cases h6:isT 6 l with
  | false=>
   have m6:=may_not (H.to 68) hS h6
   simp only [powP,h6,Bool.false_eq_true,if_false,if_true]
   refine ⟨h,?_,hS,Stay.refl _ _⟩
   rw [EvCall_open H.c101 rfl,EvFn_eq]
   simp [f101,start,hc,h1,hpw',m6]
  | true=>
   cases l with
   | nil=>cases h6
   | cons k m=>
    obtain ⟨g,m6,S1,K1⟩:=may_ok (H.to 68) hS (k:=6) (by simpa [isT] using h6)
    have i3:=is_ok (H.to 82) S1 3
    simp only [powP,h6,if_true,List.tail_cons]
    rcases sign_cases H S1 with ⟨e,q1,q2,g',q3,q4⟩ | ⟨n,r,q1,q2,g',q3,q4,q5⟩ | ⟨t,e,g1,g',q1,q2,q3,q4,q5⟩ | ⟨t,n,r,g1,g',q1,qw,q2,q3,q4,q5,q6⟩
    ·rw [q1]
     refine ⟨g',?_,K1.trans q4⟩
     rw [EvCall_open H.c101 rfl,EvFn_eq]
     simp [f101,start,hc,h1,hpw',m6,i3,q2,q3]
    ·rw [q1]
     refine ⟨g',?_,q4,K1.trans q5⟩
     rw [EvCall_open H.c101 rfl,EvFn_eq]
     simp [f101,start,hc,h1,hpw',m6,i3,q2,q3]
    ·rw [q1]
     refine ⟨g',?_,K1.trans q5⟩
     rw [EvCall_open H.c101 rfl,EvFn_eq]
     simp [f101,start,hc,h1,hpw',m6,i3,q2,q3,Tok.cs,q4]
    ·rw [q1]
     refine ⟨g',?_,q5,K1.trans q6⟩
     rw [EvCall_open H.c101 rfl,EvFn_eq]
     cases hm:t.text == [45] <;> simp [f101,start,hc,h1,hpw',m6,i3,q2,q3,Tok.cs,q4,hm,qw]
theorem found_eq (H:Has 13 E) (hx:1 ≤ x∧x ≤ 5) (s:List UInt8):EvClosed E (.fn (.func 13) [] []) [.int .i64 x,.str s] =
  some (.tuple [.int .i64 (findB (x - 1).toNat atomsT prefsT s).1,.int .i64 (findB (x - 1).toNat atomsT prefsT s).2.1,.bool (findB (x - 1).toNat atomsT prefsT s).2.2]):=by
 have:=find13_eq H progB_ok (table_eq (H.to 38)) x s
 rw [if_pos hx,if_pos hx] at this
 rw [this]
 simp [hx]
 exact ⟨rfl,rfl,rfl⟩
set_option maxHeartbeats 1000000 in
theorem sym_ok (H:Has 94 E) (hx:1 ≤ x∧x ≤ 5) {t:Tok} {r:List Tok} (S:PS x sz (sty x) p h nest (t :: r) u):Tells E x sz (sty x) p h nest 94 [.ref p 0] (symP x sz t r u):=by
 obtain ⟨h1,e1,S1,K1⟩:=take_ok (H.to 83) S
 have hf:=found_eq (H.to 13) hx t.text
 have S2:=S1.push (.cells t.cs)
 have K2:=K1.trans (Stay.push p h1 (.cells t.cs))
 have hp2:=S1.lt
 unfold symP
 generalize findB (x - 1).toNat atomsT prefsT t.text = f at hf ⊢
 obtain ⟨a,b,c⟩:=f
 have hS2:=S2
 obtain ⟨⟨lv,uv,c1,c2,c3⟩,c4,c5⟩:=S2
 simp only [parsB] at c1
 have n1:¬ p = h1.blks.length:=by omega
 have c1':h1.bl p = some (.cells [.int .i64 x,.int .i64 sz,.int .i64 nest,.bool (sty x).fold,b8 (sty x).mul,b8 (sty x).div,b8 (sty x).pow,b8 (sty x).opn,b8 (sty x).cls,lv,uv]):=by
  rw [bl_push,if_neg n1] at c1
  exact c1
 simp only at c1' hf
 have c4':h1.ro = 0:=c4
 by_cases hu:c = false∧u = none
 ·obtain ⟨rfl,rfl⟩:=hu
  have huv:uv = .nilp:=c3
  subst huv
  have lc:lv.isCell = true:=by rcases c2 with ⟨_,rfl⟩ | rfl <;> rfl
  have S3:PS x sz (sty x) p ((h1.push (.cells t.cs)).setBlk p (parsB x sz nest (sty x) lv (.ref h1.blks.length 0))) nest r (some t):=by
   refine ⟨⟨lv,.ref h1.blks.length 0,?_,c2,⟨h1.blks.length,rfl,fun hq=>n1 hq.symm,?_⟩⟩,c4,c5⟩
   ·simp [n1,c1']
   ·simp [n1]
  have K3:=K2.trans (Stay.set p _ (parsB x sz nest (sty x) lv (.ref h1.blks.length 0)))
  have q:=power_ok (H.to 101) S3
  simp only [parsB] at q
  cases hq:powP ((sty x).pow != 0) sz r with
  | error e=>
   rw [hq] at q
   obtain ⟨g,q1,q2⟩:=q
   refine ⟨g,?_,K3.trans q2⟩
   rw [EvCall_open H.c94 rfl,EvFn_eq]
   simp only [Tok.cs] at e1 q1
   simp [f94,start,e1,push_set,c1',n1,hf,c4',q1]
  | ok v=>
   obtain ⟨n,r'⟩:=v
   rw [hq] at q
   obtain ⟨g,q1,q2,q3⟩:=q
   refine ⟨g,.vs .full 1 (StepA.cs ⟨2,a,b,n,0,[]⟩),?_,growF_one _ _ _,q2,K3.trans q3⟩
   rw [EvCall_open H.c94 rfl,EvFn_eq]
   simp only [Tok.cs] at e1 q1
   simp [f94,start,e1,push_set,c1',n1,hf,c4',q1,StepA.cs]
 ·have hu':unkP c t u = u:=by
   cases c
   ·cases u with
    | none=>exact absurd ⟨rfl,rfl⟩ hu
    | some q=>rfl
   ·rfl
  have q:=power_ok (H.to 101) hS2
  simp only at hu' ⊢
  rw [hu']
  have hcond:c = true∨(c = false∧∃ b o,uv = .ref b o):=by
   cases c
   ·cases u with
    | none=>exact absurd ⟨rfl,rfl⟩ hu
    | some q=>
     obtain ⟨b,hb,_⟩:=c3
     exact .inr ⟨rfl,b,0,hb⟩
   ·exact .inl rfl
  cases hq:powP ((sty x).pow != 0) sz r with
  | error e=>
   rw [hq] at q
   obtain ⟨g,q1,q2⟩:=q
   refine ⟨g,?_,K2.trans q2⟩
   rw [EvCall_open H.c94 rfl,EvFn_eq]
   simp only [Tok.cs] at e1 q1
   rcases hcond with rfl | ⟨rfl,b',o',rfl⟩ <;> simp [f94,start,e1,push_set,c1',n1,hf,c4',q1]
  | ok v=>
   obtain ⟨n,r'⟩:=v
   rw [hq] at q
   obtain ⟨g,q1,q2,q3⟩:=q
   refine ⟨g,.vs .full 1 (StepA.cs ⟨2,a,b,n,0,[]⟩),?_,growF_one _ _ _,q2,K2.trans q3⟩
   rw [EvCall_open H.c94 rfl,EvFn_eq]
   simp only [Tok.cs] at e1 q1
   rcases hcond with rfl | ⟨rfl,b',o',rfl⟩ <;> simp [f94,start,e1,push_set,c1',n1,hf,c4',q1,StepA.cs]
end Go.Pv
/- The parser's words, one of a product, a product. Conditions: the functions' codes; theorems. -/
namespace Go.Pv
variable {E:Env} {x sz:Int} {p nest:Nat} {h:AHeap} {l:List Tok} {u:Option Tok}
def Deeper (E:Env) (x sz:Int) (p nest r:Nat):Prop:=
 ∀ r',r = r' + 1→∀ g l u,PS x sz (sty x) p g (nest + 1) l u→l.length < 900000→Tells E x sz (sty x) p g (nest + 1) 49 [.ref p 0] (mainP x sz (levelP x sz r') l u)
theorem PS.at_nest {y:Sty} {h:AHeap} {n:Nat} {l:List Tok} {u:Option Tok} (S:PS x sz y p h n l u) (m:Nat):∃ lv uv,h.bl p = some (parsB x sz n y lv uv)∧lv.isCell = true∧uv.isCell = true∧PS x sz y p (h.setBlk p (parsB x sz m y lv uv)) m l u:=by
 have hp:=S.lt
 obtain ⟨⟨lv,uv,h1,h2,h3⟩,h4,h5⟩:=S
 refine ⟨lv,uv,h1,?_,?_,⟨lv,uv,?_,h2,h3.keep (Stay.set p h _)⟩,h4,h5⟩
 ·rcases h2 with ⟨_,rfl⟩ | rfl <;> rfl
 ·cases u with
  | none=>rw [h3]; rfl
  | some q=>obtain ⟨b,hb,_⟩:=h3; rw [hb]; rfl
 ·rw [bl_set,if_pos rfl,h1]; rfl
set_option maxHeartbeats 1000000 in
theorem left_ok (H:Has 84 E) (_hx:1 ≤ x∧x ≤ 5) {r:Nat} (hr:nest + r = 32) (D:Deeper E x sz p nest r) {t:Tok} (S:PS x sz (sty x) p h nest (t :: l) u) (hl:l.length < 900000) (h1:(t.kind == 1) = false) (h2:(t.kind == 2) = false) (h7:(t.kind == 7) = true):
  Tells E x sz (sty x) p h nest 84 [.ref p 0] (levelP x sz r (t :: l) u):=by
 have i1:=is_ok (H.to 82) S 1
 have i2:=is_ok (H.to 82) S 2
 have i7:=is_ok (H.to 82) S 7
 have m7:=must_ok (E:=E) (p:=p) (H.to 50) h
 have j1:isT 1 (t :: l) = false:=h1
 have j2:isT 2 (t :: l) = false:=h2
 have j7:isT 7 (t :: l) = true:=h7
 obtain ⟨lv,uv,c1,_,_,_⟩:=S.at_nest 0
 simp only [parsB] at c1
 cases r with
 | zero=>
  have hn:nest = 32:=by omega
  subst hn
  have a:=at_ok (H.to 70) S
  refine ⟨h,?_,Stay.refl _ _⟩
  rw [EvCall_open H.c84 rfl,EvFn_eq]
  simp [f84,start,i1,i2,i7,j1,j2,j7,m7,c1,a,errV]
 | succ r'=>
  have hn:¬ (nest:Int) = 32:=by omega
  obtain ⟨g1,e1,S1,K1⟩:=take_ok (H.to 83) S
  obtain ⟨lv1,uv1,d1,lc1,uc1,S2⟩:=S1.at_nest (nest + 1)
  have ro1:g1.ro = 0:=S1.ro
  have w1:IntKind.i64.wrap ((nest:Int) + 1) = (nest:Int) + 1:=w64
  have q:=D r' rfl _ _ _ S2 hl
  have K2:=K1.trans (Stay.set p g1 (parsB x sz (nest + 1) (sty x) lv1 uv1))
  simp only [levelP,List.tail_cons]
  simp only [parsB] at d1 q K2
  have cn:((nest + 1:Nat):Int) = (nest:Int) + 1:=by omega
  rw [cn] at q
  cases hm:mainP x sz (levelP x sz r') l u with
  | error e=>
   rw [hm] at q
   obtain ⟨g2,e2,K3⟩:=q
   refine ⟨g2,?_,K2.trans K3⟩
   rw [EvCall_open H.c84 rfl,EvFn_eq]
   simp [f84,start,i1,i2,i7,j1,j2,j7,m7,c1,hn,e1,d1,w1,ro1,e2]
  | ok v=>
   obtain ⟨tt,l',u'⟩:=v
   rw [hm] at q
   obtain ⟨g2,v,e2,G2,S3,K3⟩:=q
   have K23:=K2.trans K3
   have nocase:∀ e,isT 8 l' = false→atT sz l' = e→(closeP sz (tt,l',u') = .error (14,e)):=by
    intro e h8 he
    cases l' with
    | nil=>simp only [closeP]; rw [← he]; rfl
    | cons k m=>
     have:(k.kind == 8) = false:=h8
     simp only [closeP,this,Bool.false_eq_true,if_false]
     rw [← he]
     rfl
   cases h8:isT 8 l' with
   | false=>
    simp only [nocase _ h8 rfl]
    have m8:=may_not (H.to 68) S3 h8
    have mb:=must_bad (H.to 50) S3
    refine ⟨g2,?_,K23⟩
    rw [EvCall_open H.c84 rfl,EvFn_eq]
    simp [f84,start,i1,i2,i7,j1,j2,j7,m7,c1,hn,e1,d1,w1,ro1,e2,m8,mb]
   | true=>
    cases l' with
    | nil=>cases h8
    | cons k m=>
     have hk:(k.kind == 8) = true:=h8
     obtain ⟨g3,e3,S4,K4⟩:=may_ok (H.to 68) S3 (k:=8) (by simpa using hk)
     have m8:=must_ok (E:=E) (p:=p) (H.to 50) g3
     obtain ⟨lv4,uv4,d4,lc4,uc4,S5⟩:=S4.at_nest nest
     have ro4:g3.ro = 0:=S4.ro
     have w2:IntKind.i64.wrap ((nest:Int) + 1 - 1) = (nest:Int):=by rw [Int.add_sub_cancel]; exact w64
     have w2':IntKind.i64.wrap (nest:Int) = (nest:Int):=w64
     have K5:=(K23.trans K4).trans (Stay.set p g3 (parsB x sz nest (sty x) lv4 uv4))
     simp only [closeP,hk,if_true]
     refine ⟨_,v,?_,((G2.low (k1:=h.toks.length) K2.tlen).keep K4).keep (Stay.set p g3 (parsB x sz nest (sty x) lv4 uv4)),S5,K5⟩
     rw [EvCall_open H.c84 rfl,EvFn_eq]
     simp only [parsB] at d4 ⊢
     rw [cn] at d4
     simp [f84,start,i1,i2,i7,j1,j2,j7,m7,c1,hn,e1,d1,w1,ro1,e2,e3,m8,d4,ro4,w2']
set_option maxHeartbeats 1000000 in
theorem base_ok (H:Has 84 E) (hx:1 ≤ x∧x ≤ 5) {r:Nat} (hr:nest + r = 32) (D:Deeper E x sz p nest r) (S:PS x sz (sty x) p h nest l u) (hl:l.length < 900000):
  Tells E x sz (sty x) p h nest 84 [.ref p 0] (baseP x sz (levelP x sz r) l u):=by
 have i1:=is_ok (H.to 82) S 1
 have i2:=is_ok (H.to 82) S 2
 have i7:=is_ok (H.to 82) S 7
 have bad:isT 1 l = false→isT 2 l = false→isT 7 l = false→∃ h',EvCall E (.fn (.func 84) [] []) [.ref p 0] h = some (.pan (errV (14,atT sz l)),h')∧Stay p h h':=by
  intro j1 j2 j7
  have mb:=must_bad (H.to 50) S
  refine ⟨h,?_,Stay.refl _ _⟩
  rw [EvCall_open H.c84 rfl,EvFn_eq]
  simp [f84,start,i1,i2,i7,j1,j2,j7,mb]
 cases l with
 | nil=>exact bad rfl rfl rfl
 | cons t l=>
  simp only [List.length_cons] at hl
  simp only [baseP]
  split
  ·rename_i h1
   have j1:isT 1 (t :: l) = true:=h1
   have q:=sym_ok (H.to 94) hx S
   cases hs:symP x sz t l u with
   | error e=>
    rw [hs] at q
    obtain ⟨g,e1,K⟩:=q
    refine ⟨g,?_,K⟩
    rw [EvCall_open H.c84 rfl,EvFn_eq]
    simp [f84,start,i1,j1,e1]
   | ok v=>
    obtain ⟨tt,l',u'⟩:=v
    rw [hs] at q
    obtain ⟨g,v,e1,q2,q3,q4⟩:=q
    refine ⟨g,v,?_,q2,q3,q4⟩
    rw [EvCall_open H.c84 rfl,EvFn_eq]
    simp [f84,start,i1,j1,e1]
  ·rename_i h1
   have h1':(t.kind == 1) = false:=by simpa using h1
   have j1:isT 1 (t :: l) = false:=h1'
   split
   ·rename_i h2
    have j2:isT 2 (t :: l) = true:=h2
    have q:=number_ok (H.to 95) S 1 maxNum
    unfold maxNum at q ⊢
    cases hs:numP sz 1 9223372036854775807 (t :: l) with
    | error e=>
     rw [hs] at q
     obtain ⟨g,e1,K⟩:=q
     refine ⟨g,?_,K⟩
     rw [EvCall_open H.c84 rfl,EvFn_eq]
     simp [f84,start,i1,i2,j1,j2,e1]
    | ok v=>
     obtain ⟨n,l'⟩:=v
     rw [hs] at q
     obtain ⟨g,e1,q3,q4⟩:=q
     refine ⟨g,.vs .full 1 (StepA.cs ⟨1,-1,0,0,n,[]⟩),?_,growF_one _ _ _,q3,q4⟩
     rw [EvCall_open H.c84 rfl,EvFn_eq]
     simp [f84,start,i1,i2,j1,j2,e1,StepA.cs]
   ·rename_i h2
    have h2':(t.kind == 2) = false:=by simpa using h2
    split
    ·rename_i h7
     exact left_ok H hx hr D S (by omega) h1' h2' h7
    ·rename_i h7
     exact bad h1' h2' (by simpa [isT] using h7)
end Go.Pv
