/- A part of the proof: functions of the program in the evaluator's code, and what they come to. Conditions: none; definitions and theorems that the statement's proof uses. -/
import Derived.Test.YteiaohbhlapklaaGreatDoorSettPcSym4
import Derived.Test.YteiaohbhlapklaaGreatDoorSettPcTab
import Derived.KernelRfl
/- Tokens: what the program's Lex comes to. Conditions: the functions' codes; theorems. -/
namespace Go.Pv
variable {E:Env}
def sizeT (t:Tok):Nat:=if t.kind == 9 then t.text.length + 2 else t.text.length
theorem next_size {x:Int} {s:List UInt8} {k:Int} {t:List UInt8} {n:Int} {l:Nat} (h:nextS x s = some (k,t,n,l)) (p:Int):sizeT ⟨k,p,t,n⟩ = l:=by
 cases s with
 | nil=>cases h
 | cons c r=>
  simp only [nextS] at h
  have r1:=runL_le x 1 (c :: r)
  have r2:=runL_le x 2 (c :: r)
  split at h
  ·cases h
  ·split at h
   ·cases h
    simp only [sizeT,raise,List.length_map,List.length_take]
    simp
    exact Nat.min_eq_left (by simpa using r1)
   ·split at h
    ·cases hn:numOf ((c :: r).take (runL x 2 (c :: r))) with
     | none=>rw [hn] at h; cases h
     | some v=>
      rw [hn] at h
      cases h
      simp only [sizeT,List.length_take]
      simp
      exact Nat.min_eq_left (by simpa using r2)
    ·split at h
     ·cases hn:noteS x r with
      | none=>rw [hn] at h; cases h
      | some v=>
       rw [hn] at h
       cases h
       simp [sizeT]
     ·rename_i h9
      cases h
      have:(kind x c == 9) = false:=by simpa using h9
      simp [sizeT,this]
theorem lexF_sum (x:Int):∀ (f:Nat) (s:List UInt8) (p:Nat),((lexF x f s p).1.map sizeT).sum + p = (lexF x f s p).2
 | 0,s,p=>by simp [lexF]
 | f + 1,s,p=>by
  cases h:nextS x s with
  | none=>simp [lexF,h]
  | some g=>
   obtain ⟨k,t,n,l⟩:=g
   have ih:=lexF_sum x f (s.drop l) (p + l)
   simp only [lexF,h,List.map_cons,List.sum_cons,next_size h]
   omega
theorem lexF_text (x:Int):∀ (f:Nat) (s:List UInt8) (p:Nat),∀ t ∈ (lexF x f s p).1,t.text.length ≤ s.length∧sizeT t ≤ s.length + 2
 | 0,s,p=>by simp [lexF]
 | f + 1,s,p=>by
  intro t ht
  cases h:nextS x s with
  | none=>simp [lexF,h] at ht
  | some g=>
   obtain ⟨k,u,n,l⟩:=g
   obtain ⟨l1,l2⟩:=next_len h
   simp only [lexF,h,List.mem_cons] at ht
   rcases ht with rfl | ht
   ·have:=next_size h p
    unfold sizeT at this
    unfold sizeT
    simp only at this ⊢
    split at this <;> rename_i hk <;> simp only [hk,if_true,if_false,Bool.false_eq_true] <;> omega
   ·have:=lexF_text x f (s.drop l) (p + l) t ht
    simp at this
    omega
theorem lex_round (H:Has 45 E) {h:AHeap} {t:List AV} {k:Tok} {done:List Tok} {v:AV} {n:Int} (hl:h.bl 5 = some (.loop .ready none t [27] a30_0 b30_0)) (hro:h.ro = 0) (ht:t.length = 43) (h9:t[9]? = some (.ref 1 0)) (h10:t[10]? = some (.ref 2 0))
  (h1:h.bl 1 = some (.cells [v])) (h2:h.bl 2 = some (.cells [.int .i64 n])) (hg:Grow h 4 (done.flatMap Tok.cs) done.length v) (hr:h.rot ≤ h.toks.length) (hd:done.length < 1000000) (hk:k.text.length < 1000000) (hn:0 ≤ n∧n < 1000000):
  ∃ ts v',EvCall E (.fn (.yield 5) [] []) (tokArgs k) h = some (.ret (.bool true),(((((h.push (.cells k.cs)).setBlk 5 (.loop .busy none t [27] a30_0 b30_0)).toks_ ts).setBlk 1 (.cells [v'])).setBlk 2 (.cells [.int .i64 (n + sizeT k)])).setBlk 5 (.loop .ready none t [27] a30_0 b30_0)) ∧
   Grow (h.toks_ ts) 4 ((done++[k]).flatMap Tok.cs) (done++[k]).length v'∧h.toks.length ≤ ts.length:=by
 have hsz:=size_eq H k hk
 have hse:(if k.kind == 9 then (k.text.length:Int) + 2 else (k.text.length:Int)) = (sizeT k:Nat):=by
  unfold sizeT
  split <;> simp
 rw [hse] at hsz
 have hsl:sizeT k < 1000002:=by unfold sizeT; split <;> omega
 obtain ⟨ts,v',e1,g1,r1⟩:=grow_app (h:=(h.push (.cells k.cs)).setBlk 5 (.loop .busy none t [27] a30_0 b30_0)) (bytes:=40) (m:=1) (xs:=k.cs) (hg.of_heap (by rfl) (by rfl)) (by exact hr) (by omega) (by omega) (by omega) rfl (Tok.all _)
 refine ⟨ts,v',?_,?_,r1⟩
 ·have hm1:=g1.cells
  unfold AV.cells? at hm1
  have w1:IntKind.i64.wrap (n + (sizeT k:Nat)) = n + sizeT k:=w64
  simp only [Tok.cs] at hsz e1
  simp only [tokArgs,Tok.cs]
  rw [EvCall_yield,EvRound_eq (h:=h) hl rfl]
  have hne:=blk_ne hl
  have hne1:=blk_ne h1
  have hne2:=blk_ne h2
  simp only [a30_0,b30_0] at hl e1
  simp [-den,-getElem?_pos,a30_0,b30_0,setAll,beginRd,endRd,hl,hro,h1,h2,h9,h10,ht,push_set,hne,hne1,hne2,e1,hm1,g1.cell,hsz,w1,bl_toks,ro_toks]
 ·have:=g1.of_heap (h':=h.toks_ ts) rfl rfl
  simpa using this
structure LexGood (x:Int) (s:List UInt8) (t:List AV) (all rest:List Tok) (h:AHeap):Prop where
 rec_:h.bl 5 = some (.loop .ready none t [27] a30_0 b30_0)
 c3:h.bl 3 = some (.cells [.int .i64 x])
 c4:h.bl 4 = some (.cells [.str s])
 ro:h.ro = 0
 rot:h.rot ≤ h.toks.length
 len:6 ≤ h.blks.length
 out:∃ done v,done++rest = all∧h.bl 1 = some (.cells [v])∧h.bl 2 = some (.cells [.int .i64 ((done.map sizeT).sum:Nat)])∧Grow h 4 (done.flatMap Tok.cs) done.length v
theorem lex_yields (H:Has 45 E) {x:Int} {s:List UInt8} {t:List AV} {all:List Tok} (ht:t.length = 43) (h9:t[9]? = some (.ref 1 0)) (h10:t[10]? = some (.ref 2 0)) (hall:all.length < 1000000) (htx:∀ k ∈ all,k.text.length < 1000000) (hsm:(all.map sizeT).sum < 1000000):
  YieldsL E (.fn (.yield 5) [] []) 6 tokArgs (LexGood x s t all) where
 len:=fun l h hg=>hg.len
 ro:=fun l h hg=>by rw [hg.ro]; omega
 call:=fun k l h hg=>by
  obtain ⟨done,v,hd,h1,h2,hgr⟩:=hg.out
  have hlen:done.length < 1000000:=by
   have:=congrArg List.length hd
   simp at this
   omega
  have hsum:(done.map sizeT).sum + sizeT k < 1000000:=by
   rw [← hd] at hsm
   simp at hsm
   omega
  obtain ⟨ts,v',q1,q2,q3⟩:=lex_round H (k:=k) hg.rec_ hg.ro ht h9 h10 h1 h2 hgr hg.rot hlen (htx k (by rw [← hd]; simp)) (by omega)
  have hl:=hg.len
  refine ⟨_,q1,⟨?_,?_,?_,hg.ro,?_,?_,done++[k],v',by simpa using hd,?_,?_,?_⟩,⟨fun j h1 h2=>?_,?_,?_,?_⟩⟩
  ·simp [bl_toks,hg.rec_,blk_ne hg.rec_]
  ·simp [bl_toks,hg.c3,blk_ne hg.c3]
  ·simp [bl_toks,hg.c4,blk_ne hg.c4]
  ·exact Nat.le_trans hg.rot q3
  ·simp [len_toks]; omega
  ·simp [bl_toks,h1,blk_ne h1]
  ·simp [bl_toks,h2,blk_ne h2]
  ·exact Grow.of_heap q2 (by rfl) (by rfl)
  ·rw [bl_set,if_neg (by omega),bl_set,if_neg (by omega),bl_set,if_neg (by omega),bl_toks,bl_set,if_neg (by omega),bl_push,if_neg (by omega)]
  ·simp [len_toks]
  ·rfl
  ·rfl
 keep:=fun l h h' hg o=>⟨(o.old 5 (by omega)).trans hg.rec_,(o.old 3 (by omega)).trans hg.c3,(o.old 4 (by omega)).trans hg.c4,o.ro.trans hg.ro,by rw [o.rot,o.toks]; exact hg.rot,Nat.le_trans hg.len o.len,by
  obtain ⟨done,v,hd,h1,h2,hgr⟩:=hg.out
  exact ⟨done,v,hd,(o.old 1 (by omega)).trans h1,(o.old 2 (by omega)).trans h2,hgr.of_heap o.toks o.rot⟩⟩
def lexR (x:Int) (s:List UInt8):List Tok × Nat × Nat:=
 if isN x then if s.length ≤ 255 then if (lexS x s).2 < s.length then ([],(lexS x s).2,14) else ((lexS x s).1,(lexS x s).2,0) else ([],0,12) else ([],0,1)
theorem lexF_len (x:Int):∀ (f:Nat) (s:List UInt8) (p:Nat),(lexF x f s p).1.length ≤ s.length∧(lexF x f s p).2 ≤ p + s.length
 | 0,s,p=>by simp [lexF]
 | f + 1,s,p=>by
  cases h:nextS x s with
  | none=>simp [lexF,h]
  | some g=>
   obtain ⟨k,u,n,l⟩:=g
   obtain ⟨l1,l2⟩:=next_len h
   have:=lexF_len x f (s.drop l) (p + l)
   simp only [List.length_drop] at this
   simp only [lexF,h,List.length_cons]
   omega
theorem lex_eq (H:Has 30 E) (x:Int) (s:List UInt8) (hs:s.length < 900000):EvClosed E (.fn (.func 30) [] []) [.int .i64 x,.str s] = some (.tuple [toksV (lexR x s).1,.int .i64 (lexR x s).2.1,.int .i64 (lexR x s).2.2]):=by
 rw [EvClosed_eq H.c30 rfl (vs:=[.int .i64 x,.str s]) (by simp),EvFn_eq]
 have hof:=of_eq (H.to 44) x
 simp only [Sty.cs] at hof
 cases hn:isN x
 ·rw [hn] at hof
  simp [f30,start,EvCall_closed H.c44 rfl,hof,lexR,hn,toksV]
 ·rw [hn] at hof
  by_cases hc:s.length ≤ 255
  ·have c1:decide ((255:Int) < s.length) = false:=decide_eq_false (by omega)
   obtain ⟨t,ht⟩:∃ t,([.int .i64 x,.str s,.junk,.junk,.junk,.junk,.junk,.junk,.junk,.ref 1 0,.ref 2 0,.junk,.junk,.junk,.junk,.junk,.junk,.junk,.junk,.junk,.junk,.junk,.junk,.junk,.int .i64 x,.str s,.fn (.func 46) [] [.ref 4 0,.ref 3 0],.junk,.junk,.junk,.junk,.junk,.junk,.junk,.junk,.junk,.junk,.junk,.junk,.junk,.junk,.junk,.junk]:List AV) = t:=⟨_,rfl⟩
   obtain ⟨g,hg⟩:∃ g,(((((heap0.push (.cells (sty x).cs)).push (.cells [.nils])).push (.cells [.int .i64 0])).push (.cells [.int .i64 x])).push (.cells [.str s])).push (.loop .ready none t [27] a30_0 b30_0) = g:=⟨_,rfl⟩
   have hll:=lexF_len x s.length s 0
   have hlx:=lexF_text x s.length s 0
   have hsum:=lexF_sum x s.length s 0
   have hS:lexF x s.length s 0 = lexS x s:=rfl
   rw [hS] at hll hlx hsum
   obtain ⟨h',q1,q2,q3⟩:=each46_range (E:=E) (H.to 46) x (lex_yields (H.to 45) (x:=x) (s:=s) (t:=t) (all:=(lexS x s).1) (by rw [← ht]; rfl) (by rw [← ht]; rfl) (by rw [← ht]; rfl) (by omega) (fun k hk=>by have:=(hlx k hk).1; omega) (by omega)) (fun l h hh=>hh.c4) (fun l h hh=>hh.c3) hs g
    ⟨by rw [← hg]; simp,by rw [← hg]; simp,by rw [← hg]; simp,by rw [← hg]; rfl,by rw [← hg]; simp [heap0,AHeap.push],by rw [← hg]; simp,[],.nils,rfl,by rw [← hg]; simp,by rw [← hg]; simp,grow_nil _ _⟩
   obtain ⟨done,v,hd,h1,h2,hgr⟩:=q2.out
   rw [List.append_nil] at hd
   subst hd
   have hsv:=grow_shut hgr
   have hrec:=q2.rec_
   have hro:=q2.ro
   simp only [Sty.cs] at hg
   rw [show ((lexS x s).1.map sizeT).sum = (lexS x s).2 by omega] at h2
   simp [f30,start,EvCall_closed H.c44 rfl,hof,push_setk,each32_eq (H.to 32),c1]
   rw [EvCode_rangeFunc (j:=46) (first:=[]) (caps:=[.ref 4 0,.ref 3 0]) rfl (by simp)]
   simp
   rw [ht,hg,q1]
   by_cases hlt:(lexS x s).2 < s.length
   ·have c2:decide (((lexS x s).2:Int) < s.length) = true:=decide_eq_true (by omega)
    simp [endRange,hro,hrec,h2,← ht,hlt,lexR,hn,hc,toksV]
   ·have c2:decide (((lexS x s).2:Int) < s.length) = false:=decide_eq_false (by omega)
    simp [endRange,hro,hrec,h1,h2,← ht,hlt,lexR,hn,hc,hsv]
  ·have c1:decide ((255:Int) < s.length) = true:=decide_eq_true (by omega)
   simp [f30,start,EvCall_closed H.c44 rfl,hof,lexR,hn,hc,c1,toksV]
end Go.Pv
/- The program's table, and the reference's, run. Conditions: the functions' codes; theorems. -/
namespace Go.Pv
variable {E:Env}
def progB:Tb:=⟨atomsT,prefsT,.shared,.shared,.shared⟩
def refB:Tb:=⟨atomsT,prefsT,.shared,.full,.full⟩
theorem progB_ok:progB.Ok:=⟨by decide,by decide,.inr rfl,.inr rfl,.inr rfl⟩
theorem refB_ok:refB.Ok:=⟨by decide,by decide,.inr rfl,.inl rfl,.inl rfl⟩
theorem table_run (E:Env):evClosed (extE E [(38,f38),(56,f56),(57,f57),(58,f58)] [(0,g0)] []) 200 (.fn (.func 38) [] []) [] = some progB.V:=by kernel_rfl
theorem refTable_run (E:Env):evClosed (extE E [(51,f51),(71,f71),(72,f72),(73,f73),(85,f85)] [] []) 200 (.fn (.func 51) [] []) [] = some refB.V:=by kernel_rfl
theorem table_eq (H:Has 38 E):EvClosed E (.fn (.func 38) [] []) [] = some progB.V:=by
 have he:extE E [(38,f38),(56,f56),(57,f57),(58,f58)] [(0,g0)] [] = E:=
  ext_eq (by simp [H.c38,H.c56,H.c57,H.c58]) (by simp [H.v0,globAll]) (by simp)
 have:=table_run E
 rw [he] at this
 exact EvClosed_some.2 ⟨_,this⟩
theorem refTable_eq (H:Has 51 E):EvClosed E (.fn (.func 51) [] []) [] = some refB.V:=by
 have he:extE E [(51,f51),(71,f71),(72,f72),(73,f73),(85,f85)] [] [] = E:=
  ext_eq (by simp [H.c51,H.c71,H.c72,H.c73,H.c85]) (by simp) (by simp)
 have:=refTable_run E
 rw [he] at this
 exact EvClosed_some.2 ⟨_,this⟩
end Go.Pv
/- What a parser makes of tokens. Conditions: none; definitions and lemmas. -/
namespace Go.Pv
structure StepA where
 op:Int
 pfx:Int
 atom:Int
 n:Int
 num:Int
 text:List UInt8
 deriving DecidableEq
def StepA.cs (s:StepA):List AV:=[.int .i64 s.op,.int .i64 s.pfx,.int .i64 s.atom,.int .i64 s.n,.int .i64 s.num,.str s.text]
theorem StepA.len (s:StepA):s.cs.length = 6:=by simp [StepA.cs]
theorem StepA.all (s:StepA):s.cs.all AV.isCell = true:=by simp [StepA.cs]
theorem StepA.shut {n k:Nat} (s:StepA):shutL n k s.cs = some s.cs:=by simp [StepA.cs]
abbrev PErr:=Int × Int
abbrev Res (α:Type):=Except PErr (α × List Tok × Option Tok)
def atT (sz:Int):List Tok→Int
 | []=>sz
 | t :: _=>t.pos
def isT (k:Int):List Tok→Bool
 | []=>false
 | t :: _=>t.kind == k
def numP (sz lo hi:Int):List Tok→Except PErr (Int × List Tok)
 | []=>.error (14,sz)
 | t :: r=>if (t.kind == 2 && decide (lo ≤ t.n)) && decide (t.n ≤ hi) then .ok (t.n,r) else .error (14,t.pos)
def powN (sz:Int):List Tok→Except PErr (Int × List Tok)
 | []=>.error (14,sz)
 | t :: r=>if t.kind == 3 then (match numP sz 0 99 r with | .ok (n,r')=>.ok (if t.text == [45] then -n else n,r') | .error e=>.error e) else numP sz 0 99 (t :: r)
def powP (pow:Bool) (sz:Int) (l:List Tok):Except PErr (Int × List Tok):=
 if pow then (if isT 6 l then powN sz l.tail else .ok (1,l)) else if isT 3 l || isT 2 l then powN sz l else .ok (1,l)
def unkP (ok:Bool) (t:Tok) (u:Option Tok):Option Tok:=if !ok && u.isNone then some t else u
def symP (x sz:Int) (t:Tok) (r:List Tok) (u:Option Tok):Res (List StepA):=
 match powP ((sty x).pow != 0) sz r with
 | .ok (n,r')=>.ok ([⟨2,(findB (x - 1).toNat atomsT prefsT t.text).1,(findB (x - 1).toNat atomsT prefsT t.text).2.1,n,0,[]⟩],r',unkP (findB (x - 1).toNat atomsT prefsT t.text).2.2 t u)
 | .error e=>.error e
def maxNum:Int:=9223372036854775807
def baseP (x sz:Int) (inner:List Tok→Option Tok→Res (List StepA)):List Tok→Option Tok→Res (List StepA)
 | [],_=>.error (14,sz)
 | t :: r,u=>
  if t.kind == 1 then symP x sz t r u else
  if t.kind == 2 then (match numP sz 1 maxNum (t :: r) with | .ok (n,r')=>.ok ([⟨1,-1,0,0,n,[]⟩],r',u) | .error e=>.error e) else
  if t.kind == 7 then inner (t :: r) u else .error (14,t.pos)
def noteP:List StepA × List Tok × Option Tok→Res (List StepA)
 | (t,[],u)=>.ok (t,[],u)
 | (t,k :: r,u)=>if k.kind == 9 then .ok (t++[⟨6,-1,0,0,0,k.text⟩],r,u) else .ok (t,k :: r,u)
def itemB (x sz:Int) (inner:List Tok→Option Tok→Res (List StepA)) (l:List Tok) (u:Option Tok):Res (List StepA):=
 match baseP x sz inner l u with
 | .ok r=>noteP r
 | .error e=>.error e
def itemP (x sz:Int) (inner:List Tok→Option Tok→Res (List StepA)):List Tok→Option Tok→Res (List StepA)
 | [],u=>itemB x sz inner [] u
 | t :: r,u=>if t.kind == 9 then .ok ([⟨7,-1,0,0,0,t.text⟩],r,u) else itemB x sz inner (t :: r) u
def loopP (x sz:Int) (inner:List Tok→Option Tok→Res (List StepA)):Nat→List StepA→List Tok→Option Tok→Res (List StepA)
 | 0,t,l,u=>.ok (t,l,u)
 | _ + 1,t,[],u=>.ok (t,[],u)
 | f + 1,t,k :: r,u=>
  if k.kind == 4 || k.kind == 5 then
   match itemP x sz inner r u with
   | .ok (t',l',u')=>loopP x sz inner f (t++t'++[⟨if k.kind == 4 then 3 else 4,-1,0,0,0,[]⟩]) l' u'
   | .error e=>.error e
  else .ok (t,k :: r,u)
def mainP (x sz:Int) (inner:List Tok→Option Tok→Res (List StepA)) (l:List Tok) (u:Option Tok):Res (List StepA):=
 match itemP x sz inner (if isT 5 l then l.tail else l) u with
 | .ok (t,l',u')=>loopP x sz inner l'.length (if isT 5 l then t++[⟨5,-1,0,0,0,[]⟩] else t) l' u'
 | .error e=>.error e
def closeP (sz:Int):List StepA × List Tok × Option Tok→Res (List StepA)
 | (_,[],_)=>.error (14,sz)
 | (t,k :: r,u)=>if k.kind == 8 then .ok (t,r,u) else .error (14,k.pos)
def levelP (x sz:Int):Nat→List Tok→Option Tok→Res (List StepA)
 | 0,l,_=>.error (13,atT sz l)
 | r + 1,l,u=>
  match mainP x sz (levelP x sz r) l.tail u with
  | .ok q=>closeP sz q
  | .error e=>.error e
structure Psd where
 tree:List StepA
 err:Int
 pos:Int
 len:Int
 deriving DecidableEq
def treeP (x sz:Int) (l:List Tok):Psd:=
 match mainP x sz (levelP x sz 32) l none with
 | .error e=>⟨[],e.1,e.2,0⟩
 | .ok (_,k :: _,_)=>⟨[],14,k.pos,0⟩
 | .ok (_,[],some t)=>⟨[],15,t.pos,t.text.length⟩
 | .ok (t,[],none)=>⟨t,0,sz,0⟩
def stepsV (t:List StepA):AV:=if t.isEmpty then .nils else .vs (if t.length = 1 then .full else .shared) t.length (t.flatMap StepA.cs)
def Psd.cs (p:Psd):List AV:=[stepsV p.tree,.int .i64 p.err,.int .i64 p.pos,.int .i64 p.len]
def parseP (x:Int) (s:List UInt8):Psd:=
 if isN x then
  if s.length ≤ 255 then treeP x s.length (if (lexS x s).2 < s.length then (lexS x s).1++[⟨0,(lexS x s).2,[],0⟩] else (lexS x s).1)
  else ⟨[],12,0,0⟩
 else ⟨[],1,0,0⟩
def Fits (k:Nat) (l:List Tok):Res (List StepA)→Prop
 | .ok (t,l',_)=>t.length + l'.length + k ≤ l.length∧1 ≤ t.length
 | .error _=>True
theorem numP_len {sz lo hi:Int} {l:List Tok} {n:Int} {r:List Tok} (h:numP sz lo hi l = .ok (n,r)):r.length + 1 = l.length:=by
 cases l with
 | nil=>simp [numP] at h
 | cons t l=>
  simp only [numP] at h
  split at h
  ·cases h; simp
  ·cases h
theorem powN_len {sz:Int} {l:List Tok} {n:Int} {r:List Tok} (h:powN sz l = .ok (n,r)):r.length ≤ l.length:=by
 cases l with
 | nil=>simp [powN] at h
 | cons t l=>
  simp only [powN] at h
  split at h
  ·split at h
   ·rename_i h1
    have:=numP_len h1
    cases h
    simp only [List.length_cons]
    omega
   ·cases h
  ·have:=numP_len h
   omega
theorem powP_len {pow:Bool} {sz:Int} {l:List Tok} {n:Int} {r:List Tok} (h:powP pow sz l = .ok (n,r)):r.length ≤ l.length:=by
 unfold powP at h
 split at h
 ·split at h
  ·have:=powN_len h
   simp only [List.length_tail] at this
   omega
  ·cases h; exact Nat.le_refl _
 ·split at h
  ·exact powN_len h
  ·cases h; exact Nat.le_refl _
theorem symP_fits {x sz:Int} {t:Tok} {r:List Tok} {u:Option Tok}:Fits 0 (t :: r) (symP x sz t r u):=by
 unfold symP
 split
 ·rename_i h
  have:=powP_len h
  simp only [Fits,List.length_cons,List.length_nil]
  omega
 ·trivial
section
variable {x sz:Int} {inner:List Tok→Option Tok→Res (List StepA)}
theorem baseP_fits (hi:∀ l u,Fits 0 l (inner l u)):∀ l u,Fits 0 l (baseP x sz inner l u)
 | [],u=>trivial
 | t :: r,u=>by
  simp only [baseP]
  split
  ·exact symP_fits
  ·split
   ·cases h:numP sz 1 maxNum (t :: r) with
    | error e=>trivial
    | ok v=>
     obtain ⟨n,r'⟩:=v
     have:=numP_len h
     simp only [Fits,List.length_cons,List.length_nil] at this ⊢
     omega
   ·split
    ·exact hi _ _
    ·trivial
theorem itemB_fits (hi:∀ l u,Fits 0 l (inner l u)) (l:List Tok) (u:Option Tok):Fits 0 l (itemB x sz inner l u):=by
 have:=baseP_fits (x:=x) (sz:=sz) hi l u
 unfold itemB
 split
 ·rename_i r h
  rw [h] at this
  obtain ⟨t,l',u'⟩:=r
  simp only [Fits] at this
  cases l' with
  | nil=>exact this
  | cons k r=>
   simp only [noteP]
   split
   ·simp only [Fits,List.length_append,List.length_cons,List.length_nil] at this ⊢
    omega
   ·exact this
 ·trivial
theorem itemP_fits (hi:∀ l u,Fits 0 l (inner l u)):∀ (l:List Tok) (u:Option Tok),Fits 0 l (itemP x sz inner l u)
 | [],u=>itemB_fits (x:=x) (sz:=sz) hi [] u
 | t :: r,u=>by
  simp only [itemP]
  split
  ·simp only [Fits,List.length_cons,List.length_nil]
   omega
  ·exact itemB_fits hi _ _
theorem loopP_fits (hi:∀ l u,Fits 0 l (inner l u)):∀ (f:Nat) (t:List StepA) (l:List Tok) (u:Option Tok),1 ≤ t.length→∀ l0:List Tok,t.length + l.length ≤ l0.length→Fits 0 l0 (loopP x sz inner f t l u)
 | 0,t,l,u,h1,l0,h2=>⟨by omega,h1⟩
 | f + 1,t,[],u,h1,l0,h2=>⟨by simpa using h2,h1⟩
 | f + 1,t,k :: r,u,h1,l0,h2=>by
  simp only [List.length_cons] at h2
  simp only [loopP]
  split
  ·have:=itemP_fits (x:=x) (sz:=sz) hi r u
   split
   ·rename_i h
    rw [h] at this
    simp only [Fits] at this
    exact loopP_fits hi f _ _ _ (by simp only [List.length_append,List.length_cons,List.length_nil]; omega) l0 (by simp only [List.length_append,List.length_cons,List.length_nil]; omega)
   ·trivial
  ·exact ⟨by simp; omega,h1⟩
theorem mainP_fits (hi:∀ l u,Fits 0 l (inner l u)) (l:List Tok) (u:Option Tok):Fits 0 l (mainP x sz inner l u):=by
 unfold mainP
 have:=itemP_fits (x:=x) (sz:=sz) hi (if isT 5 l then l.tail else l) u
 split
 ·rename_i h
  rw [h] at this
  simp only [Fits] at this
  cases l with
  | nil=>
   have e:(if isT 5 ([]:List Tok) = true then ([]:List Tok).tail else []) = []:=by simp
   rw [e] at this
   simp only [List.length_nil] at this
   omega
  | cons k r=>
   split at this
   ·rename_i h5
    rw [if_pos h5]
    simp only [List.tail_cons] at this
    exact loopP_fits hi _ _ _ _ (by simp) _ (by simp; omega)
   ·rename_i h5
    rw [if_neg h5]
    exact loopP_fits hi _ _ _ _ (by omega) _ (by omega)
 ·trivial
end
theorem closeP_fits {sz:Int} {l:List Tok} {t:List StepA} {l':List Tok} {u:Option Tok} (h:Fits 0 l (.ok (t,l',u))):Fits 1 l (closeP sz (t,l',u)):=by
 cases l' with
 | nil=>trivial
 | cons k r=>
  simp only [closeP]
  split
  ·simp only [Fits,List.length_cons] at h ⊢
   omega
  ·trivial
theorem levelP_fits {x sz:Int}:∀ (d:Nat) (l:List Tok) (u:Option Tok),Fits 0 l (levelP x sz d l u)
 | 0,l,u=>trivial
 | d + 1,l,u=>by
  unfold levelP
  have:=mainP_fits (x:=x) (sz:=sz) (inner:=levelP x sz d) (levelP_fits (x:=x) (sz:=sz) d) l.tail u
  split
  ·rename_i q h
   rw [h] at this
   obtain ⟨t,l',u'⟩:=q
   have h1:=closeP_fits (sz:=sz) this
   cases hq:closeP sz (t,l',u') with
   | error e=>trivial
   | ok p=>
    rw [hq] at h1
    obtain ⟨a,b,c⟩:=p
    simp only [Fits,List.length_tail] at h1 ⊢
    omega
  ·trivial
end Go.Pv
