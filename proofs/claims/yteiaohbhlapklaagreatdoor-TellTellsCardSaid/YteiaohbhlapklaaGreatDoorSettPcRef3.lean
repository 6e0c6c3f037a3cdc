/- A part of the proof: functions of the program in the evaluator's code, and what they come to. Conditions: none; definitions and theorems that the statement's proof uses. -/
import Derived.Test.YteiaohbhlapklaaGreatDoorSettPcRef1
/- The reference's parser: symbols, words. Conditions: the functions' codes; theorems. -/
namespace Go.Pv
variable {E:Env} {x sz:Int} {p nest:Nat} {h:AHeap} {all l:List Tok} {u:Option Tok}
def GrowG (k0:Nat) (h:AHeap) (sz:Nat) (cs:List AV) (len:Nat) (v:AV):Prop:=
 cs.length = len * sz∧((len = 0∧cs = []∧(v = .nils∨v = .vs .full 0 []))∨(v = .vs .full len cs∧0 < len)∨∃ k,v = .vs (.tok k sz) len cs∧h.tk k = some cs.length∧h.rot ≤ k∧k0 ≤ k∧0 < len)
theorem GrowF.g {k0:Nat} {h:AHeap} {sz:Nat} {cs:List AV} {len:Nat} {v:AV} (g:GrowF k0 h sz cs len v):GrowG k0 h sz cs len v:=by
 rcases g with ⟨rfl,rfl,h1⟩ | ⟨k,rfl,h1,h2,h3,h4,h5⟩
 ·exact ⟨by omega,.inr (.inl ⟨rfl,by omega⟩)⟩
 ·exact ⟨h1,.inr (.inr ⟨k,rfl,h2,h3,h4,by omega⟩)⟩
theorem GrowG.cell {k0:Nat} {h:AHeap} {sz:Nat} {cs:List AV} {len:Nat} {v:AV} (g:GrowG k0 h sz cs len v):v.isCell = true:=by
 rcases g.2 with ⟨_,_,rfl | rfl⟩ | ⟨rfl,_⟩ | ⟨k,rfl,_⟩ <;> simp
theorem GrowG.slice {k0:Nat} {h g:AHeap} {sz:Nat} {cs:List AV} {len:Nat} {v:AV} (q:GrowG k0 h sz cs len v):sliceCells g sz v = some (len,cs)∧cs.length = len * sz:=by
 obtain ⟨h1,q⟩:=q
 rcases q with ⟨rfl,rfl,rfl | rfl⟩ | ⟨rfl,_⟩ | ⟨k,rfl,_⟩ <;> simp [sliceCells,h1]
theorem GrowG.keep {k0 p:Nat} {h h':AHeap} {sz:Nat} {cs:List AV} {len:Nat} {v:AV} (g:GrowG k0 h sz cs len v) (K:Stay p h h'):GrowG k0 h' sz cs len v:=by
 obtain ⟨g0,g⟩:=g
 refine ⟨g0,?_⟩
 rcases g with g | g | ⟨k,g1,g3,g4,g5⟩
 ·exact .inl g
 ·exact .inr (.inl g)
 ·exact .inr (.inr ⟨k,g1,(K.tk k (List.getElem?_eq_some_iff.1 g3).1).trans g3,by rw [K.rot]; exact g4,g5⟩)
theorem GrowG.low {k0 k1:Nat} {h:AHeap} {sz:Nat} {cs:List AV} {len:Nat} {v:AV} (g:GrowG k0 h sz cs len v) (hk:k1 ≤ k0):GrowG k1 h sz cs len v:=by
 obtain ⟨g0,g⟩:=g
 refine ⟨g0,?_⟩
 rcases g with g | g | ⟨k,g1,g3,g4,g5,g6⟩
 ·exact .inl g
 ·exact .inr (.inl g)
 ·exact .inr (.inr ⟨k,g1,g3,g4,by omega,g6⟩)
theorem growG_app {k0 p:Nat} {h0 h:AHeap} {sz bytes:Nat} {cs:List AV} {len m:Nat} {v x:AV} {xs:List AV} (g:GrowG k0 h sz cs len v) (hk0:k0 = h0.toks.length) (K:Stay p h0 h) (hr:h.rot ≤ h.toks.length) (hb:(len + m) * bytes ≤ 140737488355328) (hsz:0 < sz)
  (hs:sliceCells h sz x = some (m,xs)) (hx:xs.length = m * sz) (hc:xs.all AV.isCell = true):
  ∃ ts v',appendA sz bytes h (den v) x = some (v',h.toks_ ts)∧GrowG k0 (h.toks_ ts) sz (cs++xs) (len + m) v'∧Stay p h0 (h.toks_ ts)∧h.toks.length ≤ ts.length:=by
 have hc':=List.all_eq_true.1 hc
 subst hk0
 obtain ⟨g0,g⟩:=g
 have same:Stay p h0 (h.toks_ h.toks):=K.toks (fun i _=>rfl) (Nat.le_refl _)
 rcases Nat.eq_zero_or_pos m with rfl | hm
 ·have hxs:xs = []:=List.eq_nil_of_length_eq_zero (by omega)
  subst hxs
  refine ⟨h.toks,den v,?_,⟨by simpa using g0,?_⟩,same,Nat.le_refl _⟩
  ·rcases g with ⟨rfl,rfl,rfl | rfl⟩ | ⟨rfl,h2⟩ | ⟨k,rfl,h2,_⟩
   ·simp [-sliceCells,appendA,den,hs,hsz,toks_self]
   ·simp [-sliceCells,appendA,den,hs,hsz,toks_self]
   ·have hb':len * bytes ≤ 140737488355328:=by simpa using hb
    simp [-sliceCells,appendA,den,hs,hsz,toks_self,g0,hb']
   ·have hb':len * bytes ≤ 140737488355328:=by simpa using hb
    simp [-sliceCells,appendA,den,hs,hsz,toks_self,g0,hb']
  ·simp only [List.append_nil,Nat.add_zero]
   rcases g with ⟨h1,h2,rfl | rfl⟩ | ⟨rfl,h2⟩ | ⟨k,rfl,h2⟩
   ·exact .inl ⟨h1,h2,.inr rfl⟩
   ·exact .inl ⟨h1,h2,.inr rfl⟩
   ·exact .inr (.inl ⟨rfl,h2⟩)
   ·exact .inr (.inr ⟨k,rfl,h2⟩)
 ·have hm0:¬ m = 0:=by omega
  have full:∀ (len:Nat) (cs:List AV),cs.length = len * sz→(len + m) * bytes ≤ 140737488355328→den v = .vs .full len cs →
    ∃ ts v',appendA sz bytes h (den v) x = some (v',h.toks_ ts)∧GrowG h0.toks.length (h.toks_ ts) sz (cs++xs) (len + m) v'∧Stay p h0 (h.toks_ ts)∧h.toks.length ≤ ts.length:=by
   intro len cs h1 hb hd
   refine ⟨h.toks++[cs.length + xs.length],.vs (.tok h.toks.length sz) (len + m) (cs++xs),?_,⟨by simp [h1,hx,Nat.add_mul],.inr (.inr ⟨_,rfl,?_,?_,K.tlen,by omega⟩)⟩,K.toks (fun i hi=>?_) (by simp),by simp⟩
   ·rw [hd]
    simp [-sliceCells,appendA,hs,hx,hb,hsz,hm0,AHeap.toks_,h1]
    exact hc'
   ·simp [tk_toks]
   ·exact hr
   ·rw [List.getElem?_append_left (Nat.lt_of_lt_of_le hi K.tlen)]
    rfl
  rcases g with ⟨rfl,rfl,rfl | rfl⟩ | ⟨rfl,h2⟩ | ⟨k,rfl,h2,h3,h4,h5⟩
  ·exact full 0 [] (by simp) hb rfl
  ·exact full 0 [] (by simp) hb rfl
  ·exact full len cs g0 hb rfl
  ·have hkl:k < h.toks.length:=(List.getElem?_eq_some_iff.1 h2).1
   refine ⟨h.toks.set k (cs.length + xs.length),.vs (.tok k sz) (len + m) (cs++xs),?_,⟨by simp [g0,hx,Nat.add_mul],.inr (.inr ⟨k,rfl,?_,h3,h4,by omega⟩)⟩,K.toks (fun i hi=>?_) (by simp),by simp⟩
   ·have hd:den (.vs (.tok k sz) len cs) = .vs (.tok k sz) len cs:=rfl
    rw [hd]
    rw [g0] at h2
    simp [-sliceCells,appendA,hs,hx,hb,hsz,hm0,AHeap.toks_,g0,h2,h3]
    exact hc'
   ·simp [tk_toks,hkl]
   ·rw [List.getElem?_set_ne (by omega)]
    rfl
def bnd (l:List Tok) (nest:Nat):Nat:=l.length + 3 * (33 - nest)
def TellsR (E:Env) (x sz:Int) (p:Nat) (h:AHeap) (nest:Nat) (all l:List Tok) (f:Nat) (as:List AV):Res (List StepA)→Prop
 | .ok (t,l',u')=>∃ h' v,EvCall E (.fn (.func f) [] []) as h = some (.ret v,h')∧GrowF h.toks.length h' 6 (t.flatMap StepA.cs) t.length v∧RS x sz p h' nest all l' none u'∧Stay p h h'
 | .error q=>∃ (h':AHeap) (v:AV) (t:List StepA) (l':List Tok) (u':Option Tok),EvCall E (.fn (.func f) [] []) as h = some (.ret v,h')∧GrowG h.toks.length h' 6 (t.flatMap StepA.cs) t.length v∧t.length ≤ bnd l nest∧RS x sz p h' nest all l' (some q) u'∧Stay p h h'
theorem refFound_eq (H:Has 217 E) (hx:1 ≤ x∧x ≤ 5) (s:List UInt8):EvClosed E (.fn (.func 217) [] []) [.int .i64 x,.str s] =
  some (.agg [.int .i64 (findB (x - 1).toNat atomsT prefsT s).1,.int .i64 (findB (x - 1).toNat atomsT prefsT s).2.1,.bool (findB (x - 1).toNat atomsT prefsT s).2.2]):=by
 have:=refFind217_eq H refB_ok (refTable_eq (H.to 51)) x s
 have hd:decide (1 ≤ x∧x ≤ 5) = true:=decide_eq_true hx
 rw [if_pos hx,if_pos hx,hd,Bool.true_and] at this
 exact this
set_option maxHeartbeats 2000000 in
theorem symR_ok (H:Has 215 E) (hx:1 ≤ x∧x ≤ 5) {t:Tok} {r:List Tok} (S:RS x sz p h nest all (t :: r) none u):TellsR E x sz p h nest all (t :: r) 215 [.ref p 0] (symP x sz t r u):=by
 have hn:=now_ok (H.to 210) S
 obtain ⟨i,b1,b2,S1⟩:=(S.push (.cells t.cs)).next
 have hf:=refFound_eq (H.to 217) hx t.text
 have lc:=toksV_cell all
 have ro:=S.ro
 have hp:=S.lt
 have n1:¬ p = h.blks.length:=by omega
 have n2:¬ p = h.blks.length + 1:=by omega
 have n3:¬ h.blks.length + 1 = p:=by omega
 have n4:¬ h.blks.length = p:=by omega
 have w:IntKind.i64.wrap ((i:Int) + 1) = (i:Int) + 1:=w64
 have cn:((i + 1:Nat):Int) = (i:Int) + 1:=by omega
 unfold symP
 generalize hfa:findB (x - 1).toNat atomsT prefsT t.text = f at hf ⊢
 obtain ⟨a,b,c⟩:=f
 have S2:=S1.push (.cells [.int .i64 a,.int .i64 b,.bool c])
 have K1:Stay p h ((h.push (.cells t.cs)).setBlk p (refB_ x sz nest (i + 1) (toksV all) none u)):=(Stay.push p h _).trans (Stay.set p _ _)
 have K2:=K1.trans (Stay.push p _ (.cells [.int .i64 a,.int .i64 b,.bool c]))
 have c1:h.bl p = some (refB_ x sz nest i (toksV all) none u):=by
  rw [bl_push,if_neg n1] at b1
  exact b1
 have fin:∀ (g3:AHeap) (u3:Option Tok),RS x sz p g3 nest all r none u3→Stay p h g3→g3.bl (h.blks.length + 1) = some (.cells [.int .i64 a,.int .i64 b,.bool c]) →
   (∀ (g':AHeap) (n:Int),EvCall E (.fn (.func 218) [] []) [.ref p 0] g3 = some (.ret (.int .i64 n),g')→g'.bl (h.blks.length + 1) = some (.cells [.int .i64 a,.int .i64 b,.bool c]) →
    EvCall E (.fn (.func 215) [] []) [.ref p 0] h = some (.ret (.vs .full 1 (StepA.cs ⟨2,a,b,n,0,[]⟩)),g')) →
   TellsR E x sz p h nest all (t :: r) 215 [.ref p 0] (match powP ((sty x).pow != 0) sz r with | .ok (n,r')=>.ok ([⟨2,a,b,n,0,[]⟩],r',u3) | .error e=>.error e):=by
  intro g3 u3 S3 K3 hb3 hrun
  have q:=powerR_ok (H.to 218) S3
  cases hq:powP ((sty x).pow != 0) sz r with
  | error d=>
   rw [hq] at q
   obtain ⟨g',l',q1,q2,q3⟩:=q
   have hb':g'.bl (h.blks.length + 1) = some (.cells [.int .i64 a,.int .i64 b,.bool c]):=(q3.bl _ (by omega) (blk_lt hb3)).trans hb3
   exact ⟨g',_,[⟨2,a,b,0,0,[]⟩],l',u3,hrun g' 0 q1 hb',(growF_one _ _ _).g,by simp [bnd]; omega,q2,K3.trans q3⟩
  | ok v=>
   obtain ⟨n,r'⟩:=v
   rw [hq] at q
   obtain ⟨g',q1,q2,q3⟩:=q
   have hb':g'.bl (h.blks.length + 1) = some (.cells [.int .i64 a,.int .i64 b,.bool c]):=(q3.bl _ (by omega) (blk_lt hb3)).trans hb3
   exact ⟨g',_,hrun g' n q1 hb',growF_one _ _ _,q2,K3.trans q3⟩
 by_cases hu:c = false∧u = none
 ·obtain ⟨rfl,rfl⟩:=hu
  have S3:RS x sz p ((((h.push (.cells t.cs)).setBlk p (refB_ x sz nest (i + 1) (toksV all) none none)).push (.cells [.int .i64 a,.int .i64 b,.bool false])).setBlk p (refB_ x sz nest (i + 1) (toksV all) none (some t))) nest all r none (some t):=by
   obtain ⟨⟨j,j1,j2,j3⟩,j4,j5,j6,j7⟩:=S2
   have hj:i + 1 = j:=by
    simp [bl_set,bl_push,n1,n2,c1,refB_] at j3
    omega
   subst hj
   refine ⟨⟨i + 1,j1,j2,?_⟩,j4,j5,j6,j7⟩
   rw [bl_set,if_pos rfl,j3]
   rfl
  refine fin _ _ S3 (K2.trans (Stay.set p _ _)) (by simp [n2]) ?_
  intro g' n q1 hb'
  rw [EvCall_open H.c215 rfl,EvFn_eq]
  simp only [refB_,errNo,errAt,unkAt,unkLen,Option.map_none,Option.getD_none,Option.isSome_none,Option.isSome_some,Tok.cs,nowT] at c1 hn q1
  rw [cn] at q1
  simp [f215,start,hn,push_setk,c1,n1,n2,ro,w,hf,q1,hb',set_set,StepA.cs]
 ·have hu':unkP c t u = u:=by
   cases c
   ·cases u with
    | none=>exact absurd ⟨rfl,rfl⟩ hu
    | some q=>rfl
   ·rfl
  simp only [hu']
  have hc:c = true∨(c = false∧u.isSome = true):=by
   cases c
   ·cases u with
    | none=>exact absurd ⟨rfl,rfl⟩ hu
    | some q=>exact .inr ⟨rfl,rfl⟩
   ·exact .inl rfl
  refine fin _ _ S2 K2 (by simp) ?_
  intro g' n q1 hb'
  rw [EvCall_open H.c215 rfl,EvFn_eq]
  simp only [refB_,Tok.cs,nowT] at c1 hn q1
  rw [cn] at q1
  rcases hc with rfl | ⟨rfl,hs⟩
  ·simp [f215,start,hn,push_setk,c1,n1,ro,w,hf,q1,hb',StepA.cs]
  ·rw [hs] at q1 c1
   simp [f215,start,hn,push_setk,c1,n1,n2,ro,w,hf,q1,hb',StepA.cs]
end Go.Pv
/- The reference's parser: words, one of a product. Conditions: the functions' codes; theorems. -/
namespace Go.Pv
variable {E:Env} {x sz:Int} {p nest:Nat} {h:AHeap} {all l:List Tok} {e:Option PErr} {u:Option Tok}
def DeeperR (E:Env) (x sz:Int) (p nest r:Nat):Prop:=
 ∀ r',r = r' + 1→∀ g all l u,RS x sz p g (nest + 1) all l none u→TellsR E x sz p g (nest + 1) all l 198 [.ref p 0] (mainP x sz (levelP x sz r') l u)
theorem RS.at_nest (S:RS x sz p h nest all l e u) (m:Nat):∃ i:Nat,h.bl p = some (refB_ x sz nest i (toksV all) e u)∧RS x sz p (h.setBlk p (refB_ x sz m i (toksV all) e u)) m all l e u:=by
 obtain ⟨⟨i,h1,h2,h3⟩,h4,h5,h6,h7⟩:=S
 exact ⟨i,h3,⟨i,h1,h2,by rw [bl_set,if_pos rfl,h3]; rfl⟩,h4,h5,h6,h7⟩
theorem grow_none (k0:Nat) (h:AHeap):GrowG k0 h 6 (([]:List StepA).flatMap StepA.cs) ([]:List StepA).length .nils:=⟨rfl,.inl ⟨rfl,rfl,.inl rfl⟩⟩
set_option maxHeartbeats 2000000 in
theorem leftR_ok (H:Has 214 E) {r:Nat} (hr:nest + r = 32) (D:DeeperR E x sz p nest r) {t:Tok} (S:RS x sz p h nest all (t :: l) none u) (h1:(t.kind == 1) = false) (h2:(t.kind == 2) = false) (h7:(t.kind == 7) = true):
  TellsR E x sz p h nest all (t :: l) 214 [.ref p 0] (levelP x sz r (t :: l) u):=by
 have i1:=isR_ok (H.to 213) S (k:=1) (by omega)
 have i2:=isR_ok (H.to 213) S (k:=2) (by omega)
 have i7:=isR_ok (H.to 213) S (k:=7) (by omega)
 have j1:isT 1 (t :: l) = false:=h1
 have j2:isT 2 (t :: l) = false:=h2
 have j7:isT 7 (t :: l) = true:=h7
 obtain ⟨i,c1,_⟩:=S.at_nest 0
 have lc:=toksV_cell all
 have ro:=S.ro
 cases r with
 | zero=>
  have hn:nest = 32:=by omega
  subst hn
  obtain ⟨g,f1,f2,f3⟩:=failR_ok (H.to 199) S (c:=13) (by omega)
  refine ⟨g,.nils,[],_,_,?_,grow_none _ _,by simp,f2,f3⟩
  rw [EvCall_open H.c214 rfl,EvFn_eq]
  simp only [refB_] at c1
  simp [f214,start,i1,i2,i7,j1,j2,j7,c1,f1]
 | succ r'=>
  have hn:¬ (nest:Int) = 32:=by omega
  obtain ⟨i',c1',ci,S1⟩:=S.next
  have e1:i' = i:=by
   rw [c1] at c1'
   simp only [refB_,Option.some.injEq,ABlk.cells.injEq,List.cons.injEq,AV.int.injEq,true_and] at c1'
   omega
  subst e1
  obtain ⟨i2',d1,S2⟩:=S1.at_nest (nest + 1)
  have e2:i2' = i' + 1:=by
   rw [bl_set,if_pos rfl,c1] at d1
   simp only [refB_,Option.map_some,Option.some.injEq,ABlk.cells.injEq,List.cons.injEq,AV.int.injEq,true_and] at d1
   omega
  subst e2
  have w1:IntKind.i64.wrap ((nest:Int) + 1) = (nest:Int) + 1:=w64
  have w2:IntKind.i64.wrap ((i':Int) + 1) = (i':Int) + 1:=w64
  have cn:((nest + 1:Nat):Int) = (nest:Int) + 1:=by omega
  have cn2:((i' + 1:Nat):Int) = (i':Int) + 1:=by omega
  rw [set_set] at S2
  have q:=D r' rfl _ _ _ _ S2
  have K2:=Stay.set p h (refB_ x sz (nest + 1) (i' + 1) (toksV all) none u)
  simp only [levelP,List.tail_cons]
  have fin:∀ (g2:AHeap) (v:AV) (l':List Tok) (e':Option PErr) (u':Option Tok) (b:Bool) (g3 g4:AHeap),EvCall E (.fn (.func 198) [] []) [.ref p 0] (h.setBlk p (refB_ x sz (nest + 1) (i' + 1) (toksV all) none u)) = some (.ret v,g2) →
    EvCall E (.fn (.func 208) [] []) [.ref p 0,.int .i64 8] g2 = some (.ret (.bool b),g3)→(b = false→EvCall E (.fn (.func 199) [] []) [.ref p 0,.int .i64 14] g3 = some (.ret (.tuple []),g4))→(b = true→g4 = g3)→RS x sz p g4 (nest + 1) all l' e' u' →
    ∃ g5,EvCall E (.fn (.func 214) [] []) [.ref p 0] h = some (.ret v,g5)∧RS x sz p g5 nest all l' e' u'∧Stay p g4 g5:=by
   intro g2 v l' e' u' b g3 g4 q1 q2 q3 q4 S4
   obtain ⟨i4,d4,S5⟩:=S4.at_nest nest
   have ro4:=S4.ro
   have w3:IntKind.i64.wrap ((nest:Int) + 1 - 1) = (nest:Int):=by rw [Int.add_sub_cancel]; exact w64
   have w4:IntKind.i64.wrap (nest:Int) = (nest:Int):=w64
   refine ⟨_,?_,S5,Stay.set p _ _⟩
   rw [EvCall_open H.c214 rfl,EvFn_eq]
   simp only [refB_] at c1 q1 d4 ⊢
   rw [cn,cn2] at q1
   rw [cn] at d4
   cases b
   ·simp [f214,start,i1,i2,i7,j1,j2,j7,c1,hn,w1,w2,ro,set_set,q1,q2,q3 rfl,d4,w4,ro4]
   ·have:=q4 rfl
    subst this
    simp [f214,start,i1,i2,i7,j1,j2,j7,c1,hn,w1,w2,ro,set_set,q1,q2,d4,w4,ro4]
  have hb:∀ l':List Tok,bnd l (nest + 1) ≤ bnd (t :: l) nest:=by intro l'; simp [bnd]; omega
  cases hm:mainP x sz (levelP x sz r') l u with
  | error d=>
   rw [hm] at q
   obtain ⟨g2,v,tt,l',u',q1,q2,q3,q4,q5⟩:=q
   have m8:=mayR_err (H.to 208) q4 8
   have f8:=failR_err (H.to 199) q4 14
   obtain ⟨g5,a1,a2,a3⟩:=fin g2 v l' _ u' false g2 g2 q1 m8 (fun _=>f8) (fun q=>by cases q) q4
   exact ⟨g5,v,tt,l',u',a1,(q2.low K2.tlen).keep a3,Nat.le_trans q3 (hb l'),a2,(K2.trans q5).trans a3⟩
  | ok w=>
   obtain ⟨tt,l',u'⟩:=w
   rw [hm] at q
   obtain ⟨g2,v,q1,q2,q3,q4⟩:=q
   have fit:=mainP_fits (x:=x) (sz:=sz) (inner:=levelP x sz r') (levelP_fits r') l u
   rw [hm] at fit
   simp only [Fits] at fit
   have htl:tt.length ≤ bnd (t :: l) nest:=by simp [bnd]; omega
   have bad:isT 8 l' = false→TellsR E x sz p h nest all (t :: l) 214 [.ref p 0] (.error (14,atT sz l')):=by
    intro h8
    have m8:=mayR_not (H.to 208) q3 (k:=8) (by omega) h8
    obtain ⟨g4,f1,f2,f3⟩:=failR_ok (H.to 199) q3 (c:=14) (by omega)
    obtain ⟨g5,a1,a2,a3⟩:=fin g2 v l' _ u' false g2 g4 q1 m8 (fun _=>f1) (fun q=>by cases q) f2
    exact ⟨g5,v,tt,l',u',a1,(((q2.g.low K2.tlen).keep f3).keep a3),htl,a2,((K2.trans q4).trans f3).trans a3⟩
   cases l' with
   | nil=>exact bad rfl
   | cons k m=>
    cases hk:k.kind == 8 with
    | false=>
     have:=bad hk
     simpa only [closeP,hk,Bool.false_eq_true,if_false,atT] using this
    | true=>
     simp only [closeP,hk,if_true]
     obtain ⟨g3,m8,S3,K3⟩:=mayR_ok (H.to 208) q3 (k:=8) (by omega) (by simpa using hk)
     obtain ⟨g5,a1,a2,a3⟩:=fin g2 v m none u' true g3 g3 q1 m8 (fun q=>by cases q) (fun _=>rfl) S3
     exact ⟨g5,v,a1,((q2.low K2.tlen).keep K3).keep a3,a2,((K2.trans q4).trans K3).trans a3⟩
set_option maxHeartbeats 1000000 in
theorem baseR_ok (H:Has 214 E) (hx:1 ≤ x∧x ≤ 5) {r:Nat} (hr:nest + r = 32) (D:DeeperR E x sz p nest r) (S:RS x sz p h nest all l none u):
  TellsR E x sz p h nest all l 214 [.ref p 0] (baseP x sz (levelP x sz r) l u):=by
 have i1:=isR_ok (H.to 213) S (k:=1) (by omega)
 have i2:=isR_ok (H.to 213) S (k:=2) (by omega)
 have i7:=isR_ok (H.to 213) S (k:=7) (by omega)
 have bad:isT 1 l = false→isT 2 l = false→isT 7 l = false→TellsR E x sz p h nest all l 214 [.ref p 0] (.error (14,atT sz l)):=by
  intro j1 j2 j7
  obtain ⟨g,f1,f2,f3⟩:=failR_ok (H.to 199) S (c:=14) (by omega)
  refine ⟨g,.nils,[],l,u,?_,grow_none _ _,by simp,f2,f3⟩
  rw [EvCall_open H.c214 rfl,EvFn_eq]
  simp [f214,start,i1,i2,i7,j1,j2,j7,f1]
 cases l with
 | nil=>exact bad rfl rfl rfl
 | cons t l=>
  simp only [baseP]
  split
  ·rename_i h1
   have j1:isT 1 (t :: l) = true:=h1
   have q:=symR_ok (H.to 215) hx S
   cases hs:symP x sz t l u with
   | error d=>
    rw [hs] at q
    obtain ⟨g,v,tt,l',u',q1,q2⟩:=q
    refine ⟨g,v,tt,l',u',?_,q2⟩
    rw [EvCall_open H.c214 rfl,EvFn_eq]
    simp [f214,start,i1,i2,i7,j1,q1]
   | ok v=>
    obtain ⟨tt,l',u'⟩:=v
    rw [hs] at q
    obtain ⟨g,v,q1,q2⟩:=q
    refine ⟨g,v,?_,q2⟩
    rw [EvCall_open H.c214 rfl,EvFn_eq]
    simp [f214,start,i1,i2,i7,j1,q1]
  ·rename_i h1
   have h1':(t.kind == 1) = false:=by simpa using h1
   have j1:isT 1 (t :: l) = false:=h1'
   split
   ·rename_i h2
    have j2:isT 2 (t :: l) = true:=h2
    have q:=numberR_ok (H.to 216) S 1 maxNum
    unfold maxNum at q ⊢
    cases hs:numP sz 1 9223372036854775807 (t :: l) with
    | error d=>
     rw [hs] at q
     obtain ⟨g,l',q1,q2,q3⟩:=q
     refine ⟨g,.vs .full 1 (StepA.cs ⟨1,-1,0,0,0,[]⟩),[⟨1,-1,0,0,0,[]⟩],l',u,?_,(growF_one _ _ _).g,by simp [bnd]; omega,q2,q3⟩
     rw [EvCall_open H.c214 rfl,EvFn_eq]
     simp [f214,start,i1,i2,i7,j1,j2,q1,StepA.cs]
    | ok v=>
     obtain ⟨n,l'⟩:=v
     rw [hs] at q
     obtain ⟨g,q1,q2,q3⟩:=q
     refine ⟨g,.vs .full 1 (StepA.cs ⟨1,-1,0,0,n,[]⟩),?_,growF_one _ _ _,q2,q3⟩
     rw [EvCall_open H.c214 rfl,EvFn_eq]
     simp [f214,start,i1,i2,i7,j1,j2,q1,StepA.cs]
   ·rename_i h2
    have h2':(t.kind == 2) = false:=by simpa using h2
    split
    ·rename_i h7
     exact leftR_ok H hr D S h1' h2' h7
    ·rename_i h7
     exact bad h1' h2' (by simpa [isT] using h7)
end Go.Pv
