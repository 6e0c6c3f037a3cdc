/- A part of the proof: functions of the program in the evaluator's code, and what they come to. Conditions: none; definitions and theorems that the statement's proof uses. -/
import Derived.Test.YtamopjeecnhfaaaGreatDoorSetwPcLex4
/- Tokens: what the program's Lex comes to. Conditions: the functions' codes; theorems. -/
namespace Go.Pv
variable {E:Env}
theorem size_eq (H:Has 45 E) (t:Tok) (ht:t.text.length < 1000000):EvClosed E (.fn (.func 45) [] []) [.agg t.cs] = some (.int .i64 (if t.kind == 9 then (t.text.length:Int) + 2 else t.text.length)):=by
 rw [EvClosed_eq H.c45 rfl (vs:=[.agg t.cs]) (by simp [Tok.cs]),EvFn_eq]
 cases hk:(t.kind == 9)
 ·simp [f45,start,Tok.cs,hk]
 ·simp [f45,start,Tok.cs,hk,w64 (n:=(t.text.length:Int) + 2)]
theorem each32_eq (H:Has 32 E) {x:Int} {s:List UInt8} {h:AHeap}:EvCall E (.fn (.func 32) [] []) [.int .i64 x,.str s] h = some (.ret (.fn (.func 46) [] [.ref (h.blks.length + 1) 0,.ref h.blks.length 0]),(h.push (.cells [.int .i64 x])).push (.cells [.str s])):=by
 rw [EvCall_open H.c32 rfl,EvFn_eq]
 simp [f32,start]
def tokArgs (t:Tok):List AV:=[.agg t.cs]
theorem each46_loop (H:Has 46 E) (x:Int) {yl n0:Nat} {Good:List Tok→AHeap→Prop} (hy:YieldsL E (.fn (.yield yl) [] []) n0 tokArgs Good) {b1 b2:Nat} {S:List UInt8} (hG1:∀ l h,Good l h→h.bl b1 = some (.cells [.str S])) (hG2:∀ l h,Good l h→h.bl b2 = some (.cells [.int .i64 x])):∀ (f:Nat) (s ahead:List UInt8),S = ahead++s→s.length ≤ f→ahead.length + s.length < 900000→∀ (h:AHeap),Good (lexF x f s ahead.length).1 h →
    ∃ h',(Good [] h'∧KeptH n0 h h') ∧
      ((∀ F,mask k46_0 F = s46_0 (.fn (.yield yl) [] []) (.ref b1 0) (.ref b2 0) (.int .i64 ahead.length)→EvCode E (.loop k46_0 l46_0) F h = some (.exit 0,x46_0,h')) ∨
       (∀ F,mask k46_0 F = s46_0 (.fn (.yield yl) [] []) (.ref b1 0) (.ref b2 0) (.int .i64 ahead.length)→EvCode E (.loop k46_0 l46_0) F h = some (.ret,r46,h')))
  | f,[],ahead,hS,hf,hs,h,hg=>by
    have e1:=hG1 _ _ hg
    rw [hS] at e1
    have e:lexF x f [] ahead.length = ([],ahead.length):=by cases f <;> rfl
    rw [e] at hg
    refine ⟨h,⟨hg,KeptH.refl _ _⟩,.inl fun F hF=>?_⟩
    rw [EvCode_loop,hF]
    simp [l46_0,s46_0,x46_0,e1]
  | 0,c :: r,ahead,hS,hf,hs,h,hg=>by simp at hf
  | f + 1,c :: r,ahead,hS,hf,hs,h,hg=>by
    have e1:=hG1 _ _ hg
    have e2:=hG2 _ _ hg
    rw [hS] at e1
    simp only [List.length_cons] at hf hs
    have hn0:=hy.len _ _ hg
    have hro:=hy.ro _ _ hg
    have hnx:=next47_eq (H.to 47) x c r (by omega)
    have hlt:(ahead.length:Int) < (ahead.length:Int) + ((r.length:Int) + 1):=by omega
    have n1:=blk_ne e1
    have n2:=blk_ne e2
    have hle:(ahead.length:Int) ≤ (ahead.length:Int) + ((r.length:Int) + 1):=by omega
    have hsl:((ahead++c :: r).take (ahead.length + (r.length + 1))).drop ahead.length = c :: r:=by rw [cut_at]; simp
    cases hn:nextS x (c :: r) with
    | none=>
      rw [hn] at hnx
      simp only [lexF,hn] at hg
      simp only [got47] at hnx
      refine ⟨h.push (.cells [.int .i64 0,.int .i64 ahead.length,.str [],.int .i64 0]),⟨hy.keep _ _ _ hg (OwnH.push hn0 _),KeptH.push _ _ _⟩,.inr fun F hF=>?_⟩
      rw [EvCode_loop,hF]
      simp [l46_0,s46_0,e1,e2,hlt,hle,hsl,hnx,push_set,(by omega:h.ro ≤ h.blks.length),r46]
    | some g=>
      obtain ⟨k,t,n,l⟩:=g
      obtain ⟨l1,l2⟩:=next_len hn
      rw [hn] at hnx
      simp only [lexF,hn] at hg
      simp only [got47] at hnx
      simp only [List.length_cons] at l2
      have hap:ahead++c :: r = (ahead++(c :: r).take l)++(c :: r).drop l:=by rw [List.append_assoc,List.take_append_drop]
      have hal:(ahead++(c :: r).take l).length = ahead.length + l:=by simp; omega
      obtain ⟨h1,q1,q2,q3⟩:=hy.call _ _ _ (hy.keep _ _ _ hg (OwnH.push hn0 (.cells [.int .i64 k,.int .i64 ahead.length,.str t,.int .i64 n])))
      have hl1:h.blks.length + 1 ≤ h1.blks.length:=by have:=q3.len; simpa using this
      obtain ⟨h2,⟨p1,p2⟩,p3⟩:=each46_loop H x hy hG1 hG2 f ((c :: r).drop l) (ahead++(c :: r).take l) (hS.trans hap) (by simp; omega) (by rw [hal]; simp; omega) h1 (by rw [hal]; exact q2)
      rw [hal] at p3
      have hl0:((l:Int) == 0) = false:=by simp; omega
      have w1:IntKind.i64.wrap ((ahead.length:Int) + l) = (ahead.length:Int) + l:=w64
      simp only [tokArgs,Tok.cs] at q1
      refine ⟨h2,⟨p1,(KeptH.push n0 h _).trans (q3.trans p2)⟩,?_⟩
      rcases p3 with p3 | p3
      · refine .inl fun F hF=>?_
        rw [EvCode_loop,hF]
        generalize EvCode E (.loop k46_0 l46_0) = lp at p3 ⊢
        simp [l46_0,s46_0,e1,e2,hlt,hle,hsl,hnx,push_set,(by omega:h.ro ≤ h.blks.length),hl0,q1,w1]
        exact p3 _ (by simp [s46_0])
      · refine .inr fun F hF=>?_
        rw [EvCode_loop,hF]
        generalize EvCode E (.loop k46_0 l46_0) = lp at p3 ⊢
        simp [l46_0,s46_0,e1,e2,hlt,hle,hsl,hnx,push_set,(by omega:h.ro ≤ h.blks.length),hl0,q1,w1]
        exact p3 _ (by simp [s46_0])
theorem each46_range (H:Has 46 E) (x:Int) {yl n0:Nat} {Good:List Tok→AHeap→Prop} (hy:YieldsL E (.fn (.yield yl) [] []) n0 tokArgs Good) {b1 b2:Nat} {s:List UInt8} (hG1:∀ l h,Good l h→h.bl b1 = some (.cells [.str s])) (hG2:∀ l h,Good l h→h.bl b2 = some (.cells [.int .i64 x])) (hs:s.length < 900000) (h:AHeap) (hg:Good (lexS x s).1 h):
  ∃ h',EvCall E (.fn (.func 46) [] [.ref b1 0,.ref b2 0]) [.fn (.yield yl) [] []] h = some (.ret (.tuple []),h')∧(Good [] h'∧KeptH n0 h h'):=by
 obtain ⟨h',q1,q2⟩:=each46_loop H x hy hG1 hG2 s.length s [] rfl (Nat.le_refl _) (by simpa using hs) h hg
 refine ⟨h',?_,q1⟩
 rw [EvCall_open H.c46 rfl,EvFn_eq]
 simp only [List.length_nil] at q2
 simp [f46,start]
 rcases q2 with q2 | q2
 ·rw [q2 _ (by simp [s46_0])]
  simp [x46_0]
 ·rw [q2 _ (by simp [s46_0])]
  simp [r46]
end Go.Pv
/- Tokens: what the program's Lex comes to. Conditions: the functions' codes; theorems. -/
namespace Go.Pv
variable {E:Env}
def sizeT (t:Tok):Nat:=if t.kind == 9 then t.text.length + 2 else t.text.length
theorem next_size {x:Int} {s:List UInt8} {k:Int} {t:List UInt8} {n:Int} {l:Nat} (h:nextS x s = some (k,t,n,l)) (p:Int):sizeT ⟨k,p,t,n⟩ = l:=by
 cases s with
 | nil=>cases h
 | cons c r=>
  simp only [nextS] at h
  have r1:=runL_le x 1 (c :: r)
  have r2:=runL_le x 2 (c :: r)
  split at h
  ·cases h
  ·split at h
   ·cases h
    simp only [sizeT,raise,List.length_map,List.length_take]
    simp
    exact Nat.min_eq_left (by simpa using r1)
   ·split at h
    ·cases hn:numOf ((c :: r).take (runL x 2 (c :: r))) with
     | none=>rw [hn] at h; cases h
     | some v=>
      rw [hn] at h
      cases h
      simp only [sizeT,List.length_take]
      simp
      exact Nat.min_eq_left (by simpa using r2)
    ·split at h
     ·cases hn:noteS x r with
      | none=>rw [hn] at h; cases h
      | some v=>
       rw [hn] at h
       cases h
       simp [sizeT]
     ·rename_i h9
      cases h
      have:(kind x c == 9) = false:=by simpa using h9
      simp [sizeT,this]
theorem lexF_sum (x:Int):∀ (f:Nat) (s:List UInt8) (p:Nat),((lexF x f s p).1.map sizeT).sum + p = (lexF x f s p).2
 | 0,s,p=>by simp [lexF]
 | f + 1,s,p=>by
  cases h:nextS x s with
  | none=>simp [lexF,h]
  | some g=>
   obtain ⟨k,t,n,l⟩:=g
   have ih:=lexF_sum x f (s.drop l) (p + l)
   simp only [lexF,h,List.map_cons,List.sum_cons,next_size h]
   omega
theorem lexF_text (x:Int):∀ (f:Nat) (s:List UInt8) (p:Nat),∀ t ∈ (lexF x f s p).1,t.text.length ≤ s.length∧sizeT t ≤ s.length + 2
 | 0,s,p=>by simp [lexF]
 | f + 1,s,p=>by
  intro t ht
  cases h:nextS x s with
  | none=>simp [lexF,h] at ht
  | some g=>
   obtain ⟨k,u,n,l⟩:=g
   obtain ⟨l1,l2⟩:=next_len h
   simp only [lexF,h,List.mem_cons] at ht
   rcases ht with rfl | ht
   ·have:=next_size h p
    unfold sizeT at this
    unfold sizeT
    simp only at this ⊢
    split at this <;> rename_i hk <;> simp only [hk,if_true,if_false,Bool.false_eq_true] <;> omega
   ·have:=lexF_text x f (s.drop l) (p + l) t ht
    simp at this
    omega
theorem lex_round (H:Has 45 E) {h:AHeap} {t:List AV} {k:Tok} {done:List Tok} {v:AV} {n:Int} (hl:h.bl 5 = some (.loop .ready none t [27] a30_0 b30_0)) (hro:h.ro = 0) (ht:t.length = 43) (h9:t[9]? = some (.ref 1 0)) (h10:t[10]? = some (.ref 2 0))
  (h1:h.bl 1 = some (.cells [v])) (h2:h.bl 2 = some (.cells [.int .i64 n])) (hg:Grow h 4 (done.flatMap Tok.cs) done.length v) (hr:h.rot ≤ h.toks.length) (hd:done.length < 1000000) (hk:k.text.length < 1000000) (hn:0 ≤ n∧n < 1000000):
  ∃ ts v',EvCall E (.fn (.yield 5) [] []) (tokArgs k) h = some (.ret (.bool true),(((((h.push (.cells k.cs)).setBlk 5 (.loop .busy none t [27] a30_0 b30_0)).toks_ ts).setBlk 1 (.cells [v'])).setBlk 2 (.cells [.int .i64 (n + sizeT k)])).setBlk 5 (.loop .ready none t [27] a30_0 b30_0)) ∧
   Grow (h.toks_ ts) 4 ((done++[k]).flatMap Tok.cs) (done++[k]).length v'∧h.toks.length ≤ ts.length:=by
 have hsz:=size_eq H k hk
 have hse:(if k.kind == 9 then (k.text.length:Int) + 2 else (k.text.length:Int)) = (sizeT k:Nat):=by
  unfold sizeT
  split <;> simp
 rw [hse] at hsz
 have hsl:sizeT k < 1000002:=by unfold sizeT; split <;> omega
 obtain ⟨ts,v',e1,g1,r1⟩:=grow_app (h:=(h.push (.cells k.cs)).setBlk 5 (.loop .busy none t [27] a30_0 b30_0)) (bytes:=40) (m:=1) (xs:=k.cs) (hg.of_heap (by rfl) (by rfl)) (by exact hr) (by omega) (by omega) (by omega) rfl (Tok.all _)
 refine ⟨ts,v',?_,?_,r1⟩
 ·have hm1:=g1.cells
  unfold AV.cells? at hm1
  have w1:IntKind.i64.wrap (n + (sizeT k:Nat)) = n + sizeT k:=w64
  simp only [Tok.cs] at hsz e1
  simp only [tokArgs,Tok.cs]
  rw [EvCall_yield,EvRound_eq (h:=h) hl rfl]
  have hne:=blk_ne hl
  have hne1:=blk_ne h1
  have hne2:=blk_ne h2
  simp only [a30_0,b30_0] at hl e1
  simp [-den,-getElem?_pos,a30_0,b30_0,setAll,beginRd,endRd,hl,hro,h1,h2,h9,h10,ht,push_set,hne,hne1,hne2,e1,hm1,g1.cell,hsz,w1,bl_toks,ro_toks]
 ·have:=g1.of_heap (h':=h.toks_ ts) rfl rfl
  simpa using this
structure LexGood (x:Int) (s:List UInt8) (t:List AV) (all rest:List Tok) (h:AHeap):Prop where
 rec_:h.bl 5 = some (.loop .ready none t [27] a30_0 b30_0)
 c3:h.bl 3 = some (.cells [.int .i64 x])
 c4:h.bl 4 = some (.cells [.str s])
 ro:h.ro = 0
 rot:h.rot ≤ h.toks.length
 len:6 ≤ h.blks.length
 out:∃ done v,done++rest = all∧h.bl 1 = some (.cells [v])∧h.bl 2 = some (.cells [.int .i64 ((done.map sizeT).sum:Nat)])∧Grow h 4 (done.flatMap Tok.cs) done.length v
theorem lex_yields (H:Has 45 E) {x:Int} {s:List UInt8} {t:List AV} {all:List Tok} (ht:t.length = 43) (h9:t[9]? = some (.ref 1 0)) (h10:t[10]? = some (.ref 2 0)) (hall:all.length < 1000000) (htx:∀ k ∈ all,k.text.length < 1000000) (hsm:(all.map sizeT).sum < 1000000):
  YieldsL E (.fn (.yield 5) [] []) 6 tokArgs (LexGood x s t all) where
 len:=fun l h hg=>hg.len
 ro:=fun l h hg=>by rw [hg.ro]; omega
 call:=fun k l h hg=>by
  obtain ⟨done,v,hd,h1,h2,hgr⟩:=hg.out
  have hlen:done.length < 1000000:=by
   have:=congrArg List.length hd
   simp at this
   omega
  have hsum:(done.map sizeT).sum + sizeT k < 1000000:=by
   rw [← hd] at hsm
   simp at hsm
   omega
  obtain ⟨ts,v',q1,q2,q3⟩:=lex_round H (k:=k) hg.rec_ hg.ro ht h9 h10 h1 h2 hgr hg.rot hlen (htx k (by rw [← hd]; simp)) (by omega)
  have hl:=hg.len
  refine ⟨_,q1,⟨?_,?_,?_,hg.ro,?_,?_,done++[k],v',by simpa using hd,?_,?_,?_⟩,⟨fun j h1 h2=>?_,?_,?_,?_⟩⟩
  ·simp [bl_toks,hg.rec_,blk_ne hg.rec_]
  ·simp [bl_toks,hg.c3,blk_ne hg.c3]
  ·simp [bl_toks,hg.c4,blk_ne hg.c4]
  ·exact Nat.le_trans hg.rot q3
  ·simp [len_toks]; omega
  ·simp [bl_toks,h1,blk_ne h1]
  ·simp [bl_toks,h2,blk_ne h2]
  ·exact Grow.of_heap q2 (by rfl) (by rfl)
  ·rw [bl_set,if_neg (by omega),bl_set,if_neg (by omega),bl_set,if_neg (by omega),bl_toks,bl_set,if_neg (by omega),bl_push,if_neg (by omega)]
  ·simp [len_toks]
  ·rfl
  ·rfl
 keep:=fun l h h' hg o=>⟨(o.old 5 (by omega)).trans hg.rec_,(o.old 3 (by omega)).trans hg.c3,(o.old 4 (by omega)).trans hg.c4,o.ro.trans hg.ro,by rw [o.rot,o.toks]; exact hg.rot,Nat.le_trans hg.len o.len,by
  obtain ⟨done,v,hd,h1,h2,hgr⟩:=hg.out
  exact ⟨done,v,hd,(o.old 1 (by omega)).trans h1,(o.old 2 (by omega)).trans h2,hgr.of_heap o.toks o.rot⟩⟩
def lexR (x:Int) (s:List UInt8):List Tok × Nat × Nat:=
 if isN x then if s.length ≤ 255 then if (lexS x s).2 < s.length then ([],(lexS x s).2,14) else ((lexS x s).1,(lexS x s).2,0) else ([],0,12) else ([],0,1)
theorem lexF_len (x:Int):∀ (f:Nat) (s:List UInt8) (p:Nat),(lexF x f s p).1.length ≤ s.length∧(lexF x f s p).2 ≤ p + s.length
 | 0,s,p=>by simp [lexF]
 | f + 1,s,p=>by
  cases h:nextS x s with
  | none=>simp [lexF,h]
  | some g=>
   obtain ⟨k,u,n,l⟩:=g
   obtain ⟨l1,l2⟩:=next_len h
   have:=lexF_len x f (s.drop l) (p + l)
   simp only [List.length_drop] at this
   simp only [lexF,h,List.length_cons]
   omega
theorem lex_eq (H:Has 30 E) (x:Int) (s:List UInt8) (hs:s.length < 900000):EvClosed E (.fn (.func 30) [] []) [.int .i64 x,.str s] = some (.tuple [toksV (lexR x s).1,.int .i64 (lexR x s).2.1,.int .i64 (lexR x s).2.2]):=by
 rw [EvClosed_eq H.c30 rfl (vs:=[.int .i64 x,.str s]) (by simp),EvFn_eq]
 have hof:=of_eq (H.to 44) x
 simp only [Sty.cs] at hof
 cases hn:isN x
 ·rw [hn] at hof
  simp [f30,start,EvCall_closed H.c44 rfl,hof,lexR,hn,toksV]
 ·rw [hn] at hof
  by_cases hc:s.length ≤ 255
  ·have c1:decide ((255:Int) < s.length) = false:=decide_eq_false (by omega)
   obtain ⟨t,ht⟩:∃ t,([.int .i64 x,.str s,.junk,.junk,.junk,.junk,.junk,.junk,.junk,.ref 1 0,.ref 2 0,.junk,.junk,.junk,.junk,.junk,.junk,.junk,.junk,.junk,.junk,.junk,.junk,.junk,.int .i64 x,.str s,.fn (.func 46) [] [.ref 4 0,.ref 3 0],.junk,.junk,.junk,.junk,.junk,.junk,.junk,.junk,.junk,.junk,.junk,.junk,.junk,.junk,.junk,.junk]:List AV) = t:=⟨_,rfl⟩
   obtain ⟨g,hg⟩:∃ g,(((((heap0.push (.cells (sty x).cs)).push (.cells [.nils])).push (.cells [.int .i64 0])).push (.cells [.int .i64 x])).push (.cells [.str s])).push (.loop .ready none t [27] a30_0 b30_0) = g:=⟨_,rfl⟩
   have hll:=lexF_len x s.length s 0
   have hlx:=lexF_text x s.length s 0
   have hsum:=lexF_sum x s.length s 0
   have hS:lexF x s.length s 0 = lexS x s:=rfl
   rw [hS] at hll hlx hsum
   obtain ⟨h',q1,q2,q3⟩:=each46_range (E:=E) (H.to 46) x (lex_yields (H.to 45) (x:=x) (s:=s) (t:=t) (all:=(lexS x s).1) (by rw [← ht]; rfl) (by rw [← ht]; rfl) (by rw [← ht]; rfl) (by omega) (fun k hk=>by have:=(hlx k hk).1; omega) (by omega)) (fun l h hh=>hh.c4) (fun l h hh=>hh.c3) hs g
    ⟨by rw [← hg]; simp,by rw [← hg]; simp,by rw [← hg]; simp,by rw [← hg]; rfl,by rw [← hg]; simp [heap0,AHeap.push],by rw [← hg]; simp,[],.nils,rfl,by rw [← hg]; simp,by rw [← hg]; simp,grow_nil _ _⟩
   obtain ⟨done,v,hd,h1,h2,hgr⟩:=q2.out
   rw [List.append_nil] at hd
   subst hd
   have hsv:=grow_shut hgr
   have hrec:=q2.rec_
   have hro:=q2.ro
   simp only [Sty.cs] at hg
   rw [show ((lexS x s).1.map sizeT).sum = (lexS x s).2 by omega] at h2
   simp [f30,start,EvCall_closed H.c44 rfl,hof,push_setk,each32_eq (H.to 32),c1]
   rw [EvCode_rangeFunc (j:=46) (first:=[]) (caps:=[.ref 4 0,.ref 3 0]) rfl (by simp)]
   simp
   rw [ht,hg,q1]
   by_cases hlt:(lexS x s).2 < s.length
   ·have c2:decide (((lexS x s).2:Int) < s.length) = true:=decide_eq_true (by omega)
    simp [endRange,hro,hrec,h2,← ht,hlt,lexR,hn,hc,toksV]
   ·have c2:decide (((lexS x s).2:Int) < s.length) = false:=decide_eq_false (by omega)
    simp [endRange,hro,hrec,h1,h2,← ht,hlt,lexR,hn,hc,hsv]
  ·have c1:decide ((255:Int) < s.length) = true:=decide_eq_true (by omega)
   simp [f30,start,EvCall_closed H.c44 rfl,hof,lexR,hn,hc,c1,toksV]
end Go.Pv
