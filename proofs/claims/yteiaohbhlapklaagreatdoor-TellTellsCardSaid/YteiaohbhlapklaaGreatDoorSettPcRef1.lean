/- A part of the proof: functions of the program in the evaluator's code, and what they come to. Conditions: none; definitions and theorems that the statement's proof uses. -/
import Derived.Test.YteiaohbhlapklaaGreatDoorSettPcParse7
import Derived.Test.YteiaohbhlapklaaGreatDoorSettPcSym4
/- The reference's parser: what stands there, and goes behind it. Conditions: the functions' codes; theorems. -/
namespace Go.Pv
variable {E:Env} {x sz:Int} {p nest:Nat} {h:AHeap} {all l:List Tok} {e:Option PErr} {u:Option Tok}
def nowT (sz:Int):List Tok→Tok
 | []=>⟨0,sz,[],0⟩
 | t :: _=>t
theorem now_pos (sz:Int) (l:List Tok):(nowT sz l).pos = atT sz l:=by cases l <;> rfl
theorem now_kind (sz:Int) (l:List Tok) {k:Int} (hk:k ≠ 0):((nowT sz l).kind == k) = isT k l:=by
 cases l with
 | nil=>
  show ((0:Int) == k) = false
  simp
  exact fun q=>hk q.symm
 | cons t l=>rfl
def unkAt:Option Tok→Int
 | none=>0
 | some t=>t.pos
def unkLen:Option Tok→Int
 | none=>0
 | some t=>t.text.length
def errNo (e:Option PErr):Int:=(e.map (·.1)).getD 0
def errAt (e:Option PErr):Int:=(e.map (·.2)).getD 0
def refB_ (x sz:Int) (nest i:Nat) (lv:AV) (e:Option PErr) (u:Option Tok):ABlk:=
 .cells [.int .i64 x,.int .i64 i,.int .i64 sz,.int .i64 nest,lv,.nils,.int .i64 (errNo e),.int .i64 (errAt e),.int .i64 0,.int .i64 (unkAt u),.int .i64 (unkLen u),.bool u.isSome]
structure RS (x sz:Int) (p:Nat) (h:AHeap) (nest:Nat) (all l:List Tok) (e:Option PErr) (u:Option Tok):Prop where
 ex:∃ i,i ≤ all.length∧all.drop i = l∧h.bl p = some (refB_ x sz nest i (toksV all) e u)
 ro:h.ro = 0
 rot:h.rot ≤ h.toks.length
 ne:∀ q,e = some q→q.1 ≠ 0
 sm:all.length < 900000
theorem RS.lt (S:RS x sz p h nest all l e u):p < h.blks.length:=by
 obtain ⟨⟨i,_,_,h1⟩,_⟩:=S
 exact blk_lt h1
theorem RS.stay {h':AHeap} (S:RS x sz p h nest all l e u) (K:Stay p h h') (hp:h'.bl p = h.bl p):RS x sz p h' nest all l e u:=by
 obtain ⟨⟨i,h1,h2,h3⟩,h4,h5,h6,h7⟩:=S
 exact ⟨⟨i,h1,h2,hp.trans h3⟩,by rw [K.ro]; exact h4,by rw [K.rot]; exact Nat.le_trans h5 K.tlen,h6,h7⟩
theorem RS.push (S:RS x sz p h nest all l e u) (b:ABlk):RS x sz p (h.push b) nest all l e u:=
 S.stay (Stay.push p h b) (by rw [bl_push,if_neg (by have:=S.lt; omega)])
theorem RS.toks (S:RS x sz p h nest all l e u) {ts:List Nat} (ht:h.toks.length ≤ ts.length):RS x sz p (h.toks_ ts) nest all l e u:=by
 obtain ⟨h1,h2,h3,h4,h5⟩:=S
 exact ⟨h1,h2,Nat.le_trans h3 ht,h4,h5⟩
theorem RS.len (S:RS x sz p h nest all l e u):l.length ≤ all.length:=by
 obtain ⟨⟨i,_,h2,_⟩,_⟩:=S
 rw [← h2,List.length_drop]
 omega
theorem now_cell (H:Has 210 E) {i:Nat} (hi:i ≤ all.length) (hd:all.drop i = l) {x' nest':AV} {c5 c6 c7 c8 c9 c10 c11:AV}
  (hb:h.bl p = some (.cells [x',.int .i64 i,.int .i64 sz,nest',toksV all,c5,c6,c7,c8,c9,c10,c11])):EvCall E (.fn (.func 210) [] []) [.ref p 0] h = some (.ret (.agg (nowT sz l).cs),h):=by
 have n1:=blk_ne hb
 rw [EvCall_reader H.c210 rfl,EvFn_eq]
 cases all with
 | nil=>
  have hi0:i = 0:=by simpa using hi
  subst hi0
  have:l = []:=by rw [← hd]; rfl
  subst this
  simp [f210,start,hb,n1,nowT,Tok.cs,toksV,push_setk]
 | cons a as=>
  have hv:toksV (a :: as) = .vs .shared (a :: as).length ((a :: as).flatMap Tok.cs):=rfl
  rw [hv] at hb
  have hln:((a :: as).flatMap Tok.cs).length = (a :: as).length * 4:=fm_len Tok.len _
  generalize hA:a :: as = A at *
  by_cases hlt:i < A.length
  ·have hl:l = A[i] :: A.drop (i + 1):=by rw [← hd,List.drop_eq_getElem_cons hlt]
   have hge:decide ((A.length:Int) ≤ (i:Int)) = false:=decide_eq_false (by omega)
   have hge2:¬ A.length ≤ i:=by omega
   have hel:((A.flatMap Tok.cs).drop (i * 4)).take 4 = A[i].cs:=fm_el Tok.len hlt
   have h4:4 ≤ (A.flatMap Tok.cs).length - i * 4:=by omega
   have h0:i * 4 < (A.flatMap Tok.cs).length:=by omega
   rw [hl]
   generalize A.flatMap Tok.cs = cs at *
   generalize A[i] = t at *
   simp only [Tok.cs] at hel
   simp [f210,start,hb,n1,nowT,Tok.cs,push_setk,hge2,hlt,hel,h4,h0]
  ·have:i = A.length:=by omega
   subst this
   have hl:l = []:=by rw [← hd]; simp
   subst hl
   simp [f210,start,hb,n1,nowT,Tok.cs,push_setk]
theorem now_ok (H:Has 210 E) (S:RS x sz p h nest all l e u):EvCall E (.fn (.func 210) [] []) [.ref p 0] h = some (.ret (.agg (nowT sz l).cs),h):=by
 obtain ⟨⟨i,h1,h2,h3⟩,_⟩:=S
 exact now_cell H h1 h2 h3
theorem isR_ok (H:Has 213 E) (S:RS x sz p h nest all l none u) {k:Int} (hk:k ≠ 0):EvCall E (.fn (.func 213) [] []) [.ref p 0,.int .i64 k] h = some (.ret (.bool (isT k l)),h):=by
 have hkk:=now_kind sz l hk
 obtain ⟨⟨i,h1,h2,h3⟩,_⟩:=S
 simp only [refB_,errNo,Option.map_none,Option.getD_none] at h3
 have hn:=now_cell (h:=h.still) (sz:=sz) (H.to 210) h1 h2 (by simpa using h3)
 simp only [Tok.cs] at hn
 rw [EvCall_reader H.c213 rfl,EvFn_eq]
 simp [f213,start,h3,hn,hkk]
theorem isR_err (H:Has 213 E) {q:PErr} (S:RS x sz p h nest all l (some q) u) (k:Int):EvCall E (.fn (.func 213) [] []) [.ref p 0,.int .i64 k] h = some (.ret (.bool false),h):=by
 obtain ⟨⟨i,h1,h2,h3⟩,_,_,h6,_⟩:=S
 have hq:(q.1 == 0) = false:=by simpa using h6 q rfl
 simp only [refB_,errNo,Option.map_some,Option.getD_some] at h3
 rw [EvCall_reader H.c213 rfl,EvFn_eq]
 simp [f213,start,h3,hq]
theorem mayR_not (H:Has 208 E) (S:RS x sz p h nest all l none u) {k:Int} (hk0:k ≠ 0) (hk:isT k l = false):EvCall E (.fn (.func 208) [] []) [.ref p 0,.int .i64 k] h = some (.ret (.bool false),h):=by
 have:=isR_ok (H.to 213) S hk0
 rw [EvCall_open H.c208 rfl,EvFn_eq]
 simp [f208,start,this,hk]
theorem mayR_err (H:Has 208 E) {q:PErr} (S:RS x sz p h nest all l (some q) u) (k:Int):EvCall E (.fn (.func 208) [] []) [.ref p 0,.int .i64 k] h = some (.ret (.bool false),h):=by
 have:=isR_err (H.to 213) S k
 rw [EvCall_open H.c208 rfl,EvFn_eq]
 simp [f208,start,this]
theorem RS.next {t:Tok} (S:RS x sz p h nest all (t :: l) e u):∃ i:Nat,h.bl p = some (refB_ x sz nest i (toksV all) e u)∧(i:Int) < 900000∧RS x sz p (h.setBlk p (refB_ x sz nest (i + 1) (toksV all) e u)) nest all l e u:=by
 obtain ⟨⟨i,h1,h2,h3⟩,h4,h5,h6,h7⟩:=S
 have hlt:i < all.length:=by
  rcases Nat.lt_or_ge i all.length with q | q
  ·exact q
  ·rw [List.drop_of_length_le q] at h2
   cases h2
 refine ⟨i,h3,by omega,⟨i + 1,hlt,?_,by rw [bl_set,if_pos rfl,h3]; rfl⟩,h4,h5,h6,h7⟩
 rw [List.drop_eq_getElem_cons hlt] at h2
 cases h2
 rfl
theorem mayR_ok (H:Has 208 E) {t:Tok} (S:RS x sz p h nest all (t :: l) none u) {k:Int} (hk0:k ≠ 0) (hk:t.kind = k):∃ h',EvCall E (.fn (.func 208) [] []) [.ref p 0,.int .i64 k] h = some (.ret (.bool true),h')∧RS x sz p h' nest all l none u∧Stay p h h':=by
 have hi:=isR_ok (H.to 213) S hk0
 have ht:isT k (t :: l) = true:=by simp [isT,hk]
 obtain ⟨i,h1,h2,S'⟩:=S.next
 have ro:=S.ro
 refine ⟨_,?_,S',Stay.set p h _⟩
 simp only [refB_] at h1 ⊢
 have w:IntKind.i64.wrap ((i:Int) + 1) = (i:Int) + 1:=w64
 have lc:=toksV_cell all
 rw [EvCall_open H.c208 rfl,EvFn_eq]
 simp [f208,start,hi,ht,h1,w,ro]
theorem failR_err (H:Has 199 E) {q:PErr} (S:RS x sz p h nest all l (some q) u) (c:Int):EvCall E (.fn (.func 199) [] []) [.ref p 0,.int .i64 c] h = some (.ret (.tuple []),h):=by
 obtain ⟨⟨i,h1,h2,h3⟩,_,_,h6,_⟩:=S
 have hq:=h6 q rfl
 simp only [refB_,errNo,Option.map_some,Option.getD_some] at h3
 rw [EvCall_open H.c199 rfl,EvFn_eq]
 simp [f199,start,h3,hq]
theorem failR_ok (H:Has 199 E) (S:RS x sz p h nest all l none u) {c:Int} (hc:c ≠ 0):∃ h',EvCall E (.fn (.func 199) [] []) [.ref p 0,.int .i64 c] h = some (.ret (.tuple []),h')∧RS x sz p h' nest all l (some (c,atT sz l)) u∧Stay p h h':=by
 obtain ⟨⟨i,h1,h2,h3⟩,h4,h5,h6,h7⟩:=S
 have lc:=toksV_cell all
 have hn:∀ g:AHeap,g.bl p = some (.cells [.int .i64 x,.int .i64 i,.int .i64 sz,.int .i64 nest,toksV all,.nils,.int .i64 c,.int .i64 0,.int .i64 0,.int .i64 (unkAt u),.int .i64 (unkLen u),.bool u.isSome])→EvCall E (.fn (.func 210) [] []) [.ref p 0] g = some (.ret (.agg (nowT sz l).cs),g):=
  fun g hg=>now_cell (H.to 210) h1 h2 hg
 have hpos:=now_pos sz l
 refine ⟨(h.setBlk p (.cells [.int .i64 x,.int .i64 i,.int .i64 sz,.int .i64 nest,toksV all,.nils,.int .i64 c,.int .i64 0,.int .i64 0,.int .i64 (unkAt u),.int .i64 (unkLen u),.bool u.isSome])).setBlk p (refB_ x sz nest i (toksV all) (some (c,atT sz l)) u),?_,⟨⟨i,h1,h2,by simp [h3]⟩,h4,h5,fun q hq=>by cases hq; exact hc,h7⟩,(Stay.set p h _).trans (Stay.set p _ _)⟩
 simp only [refB_,errNo,errAt,Option.map_none,Option.getD_none,Option.map_some,Option.getD_some] at h3 ⊢
 have hn':=hn (h.setBlk p (.cells [.int .i64 x,.int .i64 i,.int .i64 sz,.int .i64 nest,toksV all,.nils,.int .i64 c,.int .i64 0,.int .i64 0,.int .i64 (unkAt u),.int .i64 (unkLen u),.bool u.isSome])) (by simp [h3])
 simp only [Tok.cs] at hn'
 rw [EvCall_open H.c199 rfl,EvFn_eq]
 simp [f199,start,h3,h4,hn',hpos]
end Go.Pv
/- The reference's parser: numbers, powers, symbols. Conditions: the functions' codes; theorems. -/
namespace Go.Pv
variable {E:Env} {x sz:Int} {p nest:Nat} {h:AHeap} {all l:List Tok} {u:Option Tok}
def NumR (E:Env) (x sz:Int) (p:Nat) (h:AHeap) (nest:Nat) (all:List Tok) (u:Option Tok) (f:Nat) (as:List AV):Except PErr (Int × List Tok)→Prop
 | .ok (n,l')=>∃ h',EvCall E (.fn (.func f) [] []) as h = some (.ret (.int .i64 n),h')∧RS x sz p h' nest all l' none u∧Stay p h h'
 | .error q=>∃ h' l',EvCall E (.fn (.func f) [] []) as h = some (.ret (.int .i64 0),h')∧RS x sz p h' nest all l' (some q) u∧Stay p h h'
theorem numberR_ok (H:Has 216 E) (S:RS x sz p h nest all l none u) (lo hi:Int):NumR E x sz p h nest all u 216 [.ref p 0,.int .i64 lo,.int .i64 hi] (numP sz lo hi l):=by
 have hn:=now_ok (H.to 210) S
 have S1:=S.push (.cells (nowT sz l).cs)
 have K1:=Stay.push p h (.cells (nowT sz l).cs)
 have hi2:=isR_ok (H.to 213) S1 (k:=2) (by omega)
 obtain ⟨g,f1,f2,f3⟩:=failR_ok (H.to 199) S1 (c:=14) (by omega)
 have hp:=S.lt
 have n1:¬ p = h.blks.length:=by omega
 have ro:=S.ro
 have bad:(isT 2 l = false∨decide ((nowT sz l).n < lo) = true∨decide (hi < (nowT sz l).n) = true)→∃ h' l',EvCall E (.fn (.func 216) [] []) [.ref p 0,.int .i64 lo,.int .i64 hi] h = some (.ret (.int .i64 0),h')∧RS x sz p h' nest all l' (some (14,atT sz l)) u∧Stay p h h':=by
  intro hb
  refine ⟨g,l,?_,f2,K1.trans f3⟩
  rw [EvCall_open H.c216 rfl,EvFn_eq]
  simp only [Tok.cs] at hn hi2 f1
  cases hk:isT 2 l
  ·simp [f216,start,hn,push_set,hi2,hk,f1,ro]
  ·rw [hk] at hb
   cases hlo:decide ((nowT sz l).n < lo)
   ·rw [hlo] at hb
    have hhi:decide (hi < (nowT sz l).n) = true:=by simpa using hb
    simp [f216,start,hn,push_set,hi2,hk,f1,hlo,hhi,ro]
   ·simp [f216,start,hn,push_set,hi2,hk,f1,hlo,ro]
 cases l with
 | nil=>exact bad (.inl rfl)
 | cons t r=>
  cases hc:(t.kind == 2 && decide (lo ≤ t.n)) && decide (t.n ≤ hi) with
  | false=>
   simp only [numP,hc,Bool.false_eq_true,if_false]
   refine bad ?_
   simp only [Bool.and_eq_false_iff,decide_eq_false_iff_not] at hc
   rcases hc with (q | q) | q
   ·exact .inl q
   ·exact .inr (.inl (decide_eq_true (by show t.n < lo; omega)))
   ·exact .inr (.inr (decide_eq_true (by show hi < t.n; omega)))
  | true=>
   simp only [Bool.and_eq_true,decide_eq_true_eq] at hc
   simp only [numP,hc,decide_true,Bool.and_self,if_true]
   have hk:isT 2 (t :: r) = true:=by simpa [isT] using hc.1.1
   obtain ⟨i,b1,b2,S2⟩:=S1.next
   have w:IntKind.i64.wrap ((i:Int) + 1) = (i:Int) + 1:=w64
   have lc:=toksV_cell all
   have hlo:decide (t.n < lo) = false:=decide_eq_false (by omega)
   have hhi:decide (hi < t.n) = false:=decide_eq_false (by omega)
   refine ⟨_,?_,S2,K1.trans (Stay.set p _ _)⟩
   rw [EvCall_open H.c216 rfl,EvFn_eq]
   simp only [Tok.cs,refB_] at hn hi2 b1 ⊢
   simp only [nowT] at hn hi2 b1 ⊢
   rw [bl_push,if_neg n1] at b1
   simp [f216,start,hn,push_set,hi2,hk,hlo,hhi,b1,n1,w,ro]
set_option maxHeartbeats 1000000 in
theorem signR_cases (H:Has 218 E) {g:AHeap} {m:List Tok} (S:RS x sz p g nest all m none u):∃ (g2:AHeap) (m2:List Tok) (sg:Bool),
  EvCall E (.fn (.func 208) [] []) [.ref p 0,.int .i64 3] (g.push (.cells (nowT sz m).cs)) = some (.ret (.bool sg),g2)∧sg = isT 3 m ∧
  EvCall E (.fn (.func 213) [] []) [.ref p 0,.int .i64 2] g2 = some (.ret (.bool (isT 2 m2)),g2)∧(sg = false→m2 = m)∧(sg = true→∃ t,m = t :: m2) ∧
  RS x sz p g2 nest all m2 none u∧Stay p g g2∧g2.bl g.blks.length = some (.cells (nowT sz m).cs):=by
 have S1:=S.push (.cells (nowT sz m).cs)
 have K1:=Stay.push p g (.cells (nowT sz m).cs)
 have hp:=S.lt
 have hb:(g.push (.cells (nowT sz m).cs)).bl g.blks.length = some (.cells (nowT sz m).cs):=by simp
 cases h3:isT 3 m with
 | false=>
  exact ⟨_,m,false,mayR_not (H.to 208) S1 (by omega) h3,rfl,isR_ok (H.to 213) S1 (by omega),fun _=>rfl,(fun q=>by cases q),S1,K1,hb⟩
 | true=>
  cases m with
  | nil=>cases h3
  | cons t r=>
   obtain ⟨g2,e1,S2,K2⟩:=mayR_ok (H.to 208) S1 (k:=3) (by omega) (by simpa [isT] using h3)
   exact ⟨g2,r,true,e1,rfl,isR_ok (H.to 213) S2 (by omega),(fun q=>by cases q),fun _=>⟨t,rfl⟩,S2,K1.trans K2,(K2.bl _ (by omega) (by simp)).trans hb⟩
theorem powN_eq {m m2:List Tok} {sg:Bool} (h1:sg = isT 3 m) (h2:sg = false→m2 = m) (h3:sg = true→∃ t,m = t :: m2):
  powN sz m = match numP sz 0 99 m2 with | .ok (n,r)=>.ok (if sg && (nowT sz m).text == [45] then -n else n,r) | .error q=>.error q:=by
 cases sg with
 | false=>
  rw [h2 rfl]
  cases m with
  | nil=>rfl
  | cons t r=>
   have:(t.kind == 3) = false:=h1.symm
   simp only [powN,this,Bool.false_eq_true,if_false,Bool.false_and]
   cases numP sz 0 99 (t :: r) <;> rfl
 | true=>
  obtain ⟨t,rfl⟩:=h3 rfl
  have:(t.kind == 3) = true:=h1.symm
  simp only [powN,this,if_true,Bool.true_and,nowT]
  rfl
set_option maxHeartbeats 2000000 in
theorem powerR_ok (H:Has 218 E) (S:RS x sz p h nest all l none u):NumR E x sz p h nest all u 218 [.ref p 0] (powP ((sty x).pow != 0) sz l):=by
 have hst:=refOf_eq (H.to 19) x
 rw [sty_cl] at hst
 have hpw:=pow_ne (sty x)
 obtain ⟨i0,j1,j2,j3⟩:=S.ex
 simp only [refB_] at j3
 -- the part behind the power's sign,at a heap
 have tail:∀ (g:AHeap) (m:List Tok),RS x sz p g nest all m none u→Stay p h g→(isT 3 m = false→isT 2 m = false→((sty x).pow != 0) = true) →
   (∀ r,(∀ (g2 g':AHeap) (sg num:Bool) (n:Int),g.ro = 0→EvCall E (.fn (.func 210) [] []) [.ref p 0] g = some (.ret (.agg (nowT sz m).cs),g)→EvCall E (.fn (.func 208) [] []) [.ref p 0,.int .i64 3] (g.push (.cells (nowT sz m).cs)) = some (.ret (.bool sg),g2) →
     EvCall E (.fn (.func 213) [] []) [.ref p 0,.int .i64 2] g2 = some (.ret (.bool num),g2)→EvCall E (.fn (.func 216) [] []) [.ref p 0,.int .i64 0,.int .i64 99] g2 = some (.ret (.int .i64 n),g')→g'.bl g.blks.length = some (.cells (nowT sz m).cs) →
     (((sty x).pow != 0) = false→sg = false→num = true)→IntKind.i64.wrap (-n) = -n→EvCall E (.fn (.func 218) [] []) [.ref p 0] h = some (.ret (.int .i64 (if sg && (nowT sz m).text == [45] then -n else n)),g'))→r = powN sz m→NumR E x sz p h nest all u 218 [.ref p 0] r):=by
  intro g m Sg Kg hnn r hrun hr
  subst hr
  obtain ⟨g2,m2,sg,e1,e2,e3,e4,e5,S2,K2,hb⟩:=signR_cases H Sg
  have hn:=now_ok (H.to 210) Sg
  have q:=numberR_ok (H.to 216) S2 0 99
  rw [powN_eq e2 e4 e5]
  have hnum:((sty x).pow != 0) = false→sg = false→isT 2 m2 = true:=by
   intro a b
   have h3:isT 3 m = false:=by rw [← e2]; exact b
   cases h2:isT 2 m with
   | false=>
    have:=hnn h3 h2
    rw [a] at this
    cases this
   | true=>rw [e4 b]; exact h2
  have hlt:=Sg.lt
  cases hq:numP sz 0 99 m2 with
  | error d=>
   rw [hq] at q
   obtain ⟨g',l',a1,a2,a3⟩:=q
   have hb':g'.bl g.blks.length = some (.cells (nowT sz m).cs):=(a3.bl _ (by omega) (blk_lt hb)).trans hb
   have:=hrun g2 g' sg _ 0 Sg.ro hn e1 e3 a1 hb' hnum w64
   refine ⟨g',l',?_,a2,(Kg.trans K2).trans a3⟩
   rw [this]
   simp
  | ok v=>
   obtain ⟨n,l'⟩:=v
   rw [hq] at q
   obtain ⟨g',a1,a2,a3⟩:=q
   have hrg:=numP_range hq
   have hb':g'.bl g.blks.length = some (.cells (nowT sz m).cs):=(a3.bl _ (by omega) (blk_lt hb)).trans hb
   exact ⟨g',hrun g2 g' sg _ n Sg.ro hn e1 e3 a1 hb' hnum w64,a2,(Kg.trans K2).trans a3⟩
 cases hp:(sty x).pow != 0 with
 | false=>
  rw [hp] at hpw
  have hpz:(sty x).pow = 0:=by simpa using hp
  cases hb:isT 3 l || isT 2 l with
  | false=>
   simp only [powP,hb,Bool.false_eq_true,if_false]
   simp only [Bool.or_eq_false_iff] at hb
   have S1:=S.push (.cells (nowT sz l).cs)
   have hn:=now_ok (H.to 210) S
   have m3:=mayR_not (H.to 208) S1 (k:=3) (by omega) hb.1
   have i2:=isR_ok (H.to 213) S1 (k:=2) (by omega)
   refine ⟨_,?_,S1,Stay.push p h _⟩
   rw [EvCall_open H.c218 rfl,EvFn_eq]
   simp only [Tok.cs] at hn m3 i2 ⊢
   simp [f218,start,j3,EvCall_closed H.c19 rfl,hst,hpz,hn,push_set,S.ro,m3,i2,hb.2]
  | true=>
   refine tail h l S (Stay.refl p h) (fun a b=>by rw [a,b] at hb; cases hb) _ ?_ (by simp only [powP,hb,Bool.false_eq_true,if_false,if_true])
   intro g2 g' sg num n ro hn e1 e3 e4 hb' hnum wn
   have hnum':=hnum hp
   rw [EvCall_open H.c218 rfl,EvFn_eq]
   simp only [Tok.cs] at hn e1 hb'
   cases sg
   ·have:=hnum' rfl
    subst this
    simp [f218,start,j3,EvCall_closed H.c19 rfl,hst,hpz,hn,push_set,ro,e1,e3,e4]
   ·cases ht:(nowT sz l).text == [45] <;> simp [f218,start,j3,EvCall_closed H.c19 rfl,hst,hpz,hn,push_set,ro,e1,e3,e4,hb',ht,wn]
 | true=>
  rw [hp] at hpw
  have hpn:¬ (sty x).pow = 0:=by simpa using hp
  cases h6:isT 6 l with
  | false=>
   simp only [powP,h6,Bool.false_eq_true,if_false,if_true]
   have m6:=mayR_not (H.to 208) S (k:=6) (by omega) h6
   refine ⟨h,?_,S,Stay.refl p h⟩
   rw [EvCall_open H.c218 rfl,EvFn_eq]
   simp [f218,start,j3,EvCall_closed H.c19 rfl,hst,hpw,m6]
  | true=>
   cases l with
   | nil=>cases h6
   | cons k m=>
    obtain ⟨g,m6,Sg,Kg⟩:=mayR_ok (H.to 208) S (k:=6) (by omega) (by simpa [isT] using h6)
    refine tail g m Sg Kg (fun _ _=>hp) _ ?_ (by simp only [powP,h6,if_true,List.tail_cons])
    intro g2 g' sg num n ro hn e1 e3 e4 hb' hnum wn
    rw [EvCall_open H.c218 rfl,EvFn_eq]
    simp only [Tok.cs] at hn e1 hb'
    cases sg
    ·simp [f218,start,j3,EvCall_closed H.c19 rfl,hst,hpw,m6,hn,push_set,ro,e1,e3,e4]
    ·cases ht:(nowT sz m).text == [45] <;> simp [f218,start,j3,EvCall_closed H.c19 rfl,hst,hpw,m6,hn,push_set,ro,e1,e3,e4,hb',ht,wn]
end Go.Pv
