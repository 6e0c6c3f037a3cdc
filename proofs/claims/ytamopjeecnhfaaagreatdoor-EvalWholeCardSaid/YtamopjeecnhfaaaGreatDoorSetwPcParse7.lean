/- A part of the proof: functions of the program in the evaluator's code, and what they come to. Conditions: none; definitions and theorems that the statement's proof uses. -/
import Derived.Test.YtamopjeecnhfaaaGreatDoorSetwPcParse6
import Derived.Test.YtamopjeecnhfaaaGreatDoorSetwPcLex4
import Derived.Test.YtamopjeecnhfaaaGreatDoorSetwPcEv1
/- The tree of tokens, and of a text. Conditions: the functions' codes; theorems. -/
namespace Go.Pv
variable {E:Env} {x sz:Int}
theorem growF_shut {k0:Nat} {h:AHeap} {t:List StepA} {v:AV} (g:GrowF k0 h 6 (t.flatMap StepA.cs) t.length v):shut 0 0 v = some (stepsV t):=by
 have hs:=shutL_flat (n:=0) (t:=0) (f:=StepA.cs) (fun s=>s.shut) t
 rcases g with ⟨h1,rfl,_⟩ | ⟨k,rfl,_,_,_,_,h5⟩
 ·have he:t.isEmpty = false:=by
   cases t with
   | nil=>simp at h1
   | cons a t=>rfl
  simp [stepsV,he,hs,h1]
 ·have he:t.isEmpty = false:=by
   cases t with
   | nil=>simp at h5
   | cons a t=>rfl
  have h1:¬ t.length = 1:=by omega
  simp [stepsV,he,hs,h1]
theorem stepsV_shut (t:List StepA):shut 0 0 (stepsV t) = some (stepsV t):=by
 have hs:=shutL_flat (n:=0) (t:=0) (f:=StepA.cs) (fun s=>s.shut) t
 unfold stepsV
 split
 ·simp
 ·split <;> simp [hs]
theorem stepsV_cell (t:List StepA):(stepsV t).isCell = true:=by
 unfold stepsV
 split <;> rfl
theorem def_none (H:Has 48 E) {h:AHeap} (hro:h.ro = 0):EvDef E 48 [.ref 0 0] none h = some (none,h.push (.cells [.int .i64 0,.int .i64 0])):=by
 rw [EvDef_eq H.c48]
 simp [f48,push_set,hro]
theorem def_some (H:Has 48 E) {h:AHeap} {a b c d:AV} (hb:h.bl 0 = some (.cells [a,b,c,d])) (hro:h.ro = 0) (e:PErr):
  EvDef E 48 [.ref 0 0] (some (errV e)) h = some (none,(h.push (.cells [.int .i64 e.1,.int .i64 e.2])).setBlk 0 (.cells [.nils,.int .i64 e.1,.int .i64 e.2,.int .i64 0])):=by
 have n0:=blk_ne hb
 rw [EvDef_eq H.c48]
 simp [f48,push_set,hro,errV,n0,hb]
theorem toksV_rest (l:List Tok):RestV (toksV l) l:=by
 cases l with
 | nil=>exact .inl ⟨rfl,rfl⟩
 | cons t l=>exact .inr rfl
theorem toksV_cells (l:List Tok):(toksV l).cells? = some [toksV l]:=by cases l <;> rfl
def heapP (x sz:Int) (lv:AV):AHeap:=((heap0.push (.cells [.nils,.int .i64 0,.int .i64 0,.int .i64 0])).push (.cells (sty x).cs)).push (parsB x sz 0 (sty x) lv .nilp)
theorem ps_first (l:List Tok):PS x sz (sty x) 2 (heapP x sz (toksV l)) 0 l none:=
 ⟨⟨toksV l,.nilp,by simp [heapP],toksV_rest l,rfl⟩,rfl,Nat.le_refl _⟩
theorem sty_cl (y:Sty):y.cs = [.bool y.fold,b8 y.mul,b8 y.div,b8 y.pow,b8 y.opn,b8 y.cls]:=rfl
theorem len_eq {y:Sty} {h:AHeap} {l:List Tok} {u:Option Tok} {p n:Nat} (S:PS x sz y p h n l u):∃ lv uv,h.bl p = some (.cells [.int .i64 x,.int .i64 sz,.int .i64 n,.bool y.fold,b8 y.mul,b8 y.div,b8 y.pow,b8 y.opn,b8 y.cls,lv,uv])∧((l = []∧lv = .nils)∨lv = restV l)∧UnkV p h uv u:=by
 obtain ⟨⟨lv,uv,h1,h2,h3⟩,_⟩:=S
 exact ⟨lv,uv,h1,h2,h3⟩
set_option maxHeartbeats 2000000 in
theorem tree_eq (H:Has 33 E) (hx:isN x = true) (l:List Tok) (hl:l.length < 900000) {lv:AV} (hlv:shut 0 0 lv = some (toksV l)):
  EvClosed E (.fn (.func 33) [] []) [.int .i64 x,lv,.int .i64 sz] = some (.agg (treeP x sz l).cs):=by
 rw [EvClosed_eq H.c33 rfl (vs:=[.int .i64 x,toksV l,.int .i64 sz]) (by simp [hlv]),EvFn_eq]
 have hof:=of_eq (H.to 44) x
 rw [hx,sty_cl] at hof
 have hx':1 ≤ x∧x ≤ 5:=by simpa [isN] using hx
 have q:=main_any (H.to 49) hx' 32 0 (by omega) _ l none (ps_first (x:=x) (sz:=sz) l) hl
 have hcl:=toksV_cells l
 unfold AV.cells? at hcl
 have hhp:heapP x sz (toksV l) = ((heap0.push (.cells [.nils,.int .i64 0,.int .i64 0,.int .i64 0])).push (.cells [.bool (sty x).fold,b8 (sty x).mul,b8 (sty x).div,b8 (sty x).pow,b8 (sty x).opn,b8 (sty x).cls])).push (.cells [.int .i64 x,.int .i64 sz,.int .i64 0,.bool (sty x).fold,b8 (sty x).mul,b8 (sty x).div,b8 (sty x).pow,b8 (sty x).opn,b8 (sty x).cls,toksV l,.nilp]):=rfl
 have hb0:(heapP x sz (toksV l)).bl 0 = some (.cells [.nils,.int .i64 0,.int .i64 0,.int .i64 0]):=by simp [heapP]
 have hl0:0 < (heapP x sz (toksV l)).blks.length:=by simp [heapP]
 unfold treeP
 cases hm:mainP x sz (levelP x sz 32) l none with
 | error e=>
  rw [hm] at q
  obtain ⟨h',e1,K⟩:=q
  have hb:h'.bl 0 = some (.cells [.nils,.int .i64 0,.int .i64 0,.int .i64 0]):=(K.bl 0 (by omega) hl0).trans hb0
  have hro:h'.ro = 0:=K.ro
  have n0:=blk_ne hb
  have hd:=def_some (H.to 48) hb hro e
  rw [hhp] at e1
  simp [f33,start,EvCall_closed H.c44 rfl,hof,push_setk,hcl,e1,hd,n0,hb,Psd.cs,stepsV]
 | ok w=>
  obtain ⟨t,l',u'⟩:=w
  rw [hm] at q
  obtain ⟨h',v,e1,G,S,K⟩:=q
  have hb:h'.bl 0 = some (.cells [.nils,.int .i64 0,.int .i64 0,.int .i64 0]):=(K.bl 0 (by omega) hl0).trans hb0
  have hro:h'.ro = 0:=K.ro
  have n0:=blk_ne hb
  rw [hhp] at e1
  obtain ⟨lw,uw,c1,c2,c3⟩:=len_eq S
  have hro2:∀ y,(h'.setBlk 0 y).ro = 0:=fun y=>hro
  have dn:=fun y=>def_none (H.to 48) (hro2 y)
  cases l' with
  | cons k m=>
   have mb:=must_bad (H.to 50) S
   have hd:=def_some (H.to 48) hb hro (14,k.pos)
   have c2':lw = restV (k :: m):=by
    rcases c2 with ⟨q,_⟩ | q
    ·cases q
    ·exact q
   subst c2'
   have hlt:((m.length:Int) + 1 == 0) = false:=by simp; omega
   simp only [atT] at mb
   simp only [restV] at c1
   simp [f33,start,EvCall_closed H.c44 rfl,hof,push_setk,hcl,e1,c1,hlt,mb,hd,n0,hb,Psd.cs,stepsV]
  | nil=>
   have mo:=must_ok (E:=E) (p:=2) (H.to 50) h'
   have hv:=growF_shut G
   have hvc:=G.cell
   have hvs:=G.cells
   unfold AV.cells? at hvs
   have c2':lw = .nils∨lw = .vs .shared 0 []:=by
    rcases c2 with ⟨_,q⟩ | q
    ·exact .inl q
    ·exact .inr q
   cases u' with
   | none=>
    have c3':uw = .nilp:=c3
    subst c3'
    rcases c2' with rfl | rfl <;> simp [f33,start,EvCall_closed H.c44 rfl,hof,push_setk,hcl,e1,c1,mo,dn,n0,hb,hro,hvc,hvs,hv,Psd.cs]
   | some tk=>
    obtain ⟨b,hb1,hb2,hb3⟩:=c3
    subst hb1
    simp only [Tok.cs] at hb3
    rcases c2' with rfl | rfl <;> simp [f33,start,EvCall_closed H.c44 rfl,hof,push_setk,hcl,e1,c1,mo,dn,n0,hb,hro,hb3,Psd.cs,stepsV]
set_option maxHeartbeats 2000000 in
theorem parse_eq (H:Has 20 E) (x:Int) (s:List UInt8) (hs:s.length < 900000):EvClosed E (.fn (.func 20) [] []) [.int .i64 x,.str s] = some (.agg (parseP x s).cs):=by
 rw [EvClosed_eq H.c20 rfl (vs:=[.int .i64 x,.str s]) (by simp),EvFn_eq]
 have hlx:=lex_eq (H.to 30) x s hs
 unfold lexR at hlx
 unfold parseP
 cases hn:isN x with
 | false=>
  rw [hn] at hlx
  simp only [Bool.false_eq_true,if_false] at hlx ⊢
  simp only [toksV,List.isEmpty_nil,if_true] at hlx
  simp [f20,start,EvCall_closed H.c30 rfl,hlx,Psd.cs,stepsV,push_setk]
 | true=>
  rw [hn] at hlx
  simp only [if_true] at hlx ⊢
  by_cases h255:s.length ≤ 255
  ·simp only [if_pos h255] at hlx ⊢
   have hlen:=lexF_len x s.length s 0
   have e:lexF x s.length s 0 = lexS x s:=rfl
   rw [e] at hlen
   by_cases hend:(lexS x s).2 < s.length
   ·simp only [if_pos hend] at hlx ⊢
    simp only [toksV,List.isEmpty_nil,if_true] at hlx
    obtain ⟨h',v,e1,G,hb,hro,hrot⟩:=seq_eq (H.to 31) (H.to 46) x s hs (.cells [.nils,.int .i64 0,.int .i64 0,.int .i64 0])
    have e0:=fun h=>each32_eq (H.to 32) (x:=x) (s:=s) (h:=h)
    obtain ⟨ts,v',a1,G2,ht⟩:=grow_app (h:=h') (bytes:=40) (m:=1) (xs:=Tok.cs ⟨0,(lexS x s).2,[],0⟩) G hrot (by omega) (by omega) (by omega) rfl (Tok.all _)
    have hsh:=grow_shut (l:=(lexS x s).1++[⟨0,(lexS x s).2,[],0⟩]) (by simpa using G2)
    have ht2:=tree_eq (H.to 33) (sz:=s.length) hn ((lexS x s).1++[⟨0,(lexS x s).2,[],0⟩]) (by simp; omega) hsh
    simp only [Tok.cs] at a1
    have n0:=blk_ne hb
    generalize treeP x s.length ((lexS x s).1++[⟨0,(lexS x s).2,[],0⟩]) = q at ht2 ⊢
    have qs:=stepsV_shut q.tree
    have qc:=stepsV_cell q.tree
    simp only [Psd.cs] at ht2 ⊢
    simp [-den,f20,start,EvCall_closed H.c30 rfl,EvCall_closed H.c33 rfl,hlx,e0,e1,a1,ht2,bl_toks,ro_toks,hb,hro,qs,qc]
   ·simp only [if_neg hend] at hlx ⊢
    have ht2:=tree_eq (H.to 33) (sz:=s.length) hn (lexS x s).1 (by omega) (toksV_shut _)
    generalize treeP x s.length (lexS x s).1 = q at ht2 ⊢
    have qs:=stepsV_shut q.tree
    have qc:=stepsV_cell q.tree
    simp only [Psd.cs] at ht2 ⊢
    simp [f20,start,EvCall_closed H.c30 rfl,EvCall_closed H.c33 rfl,hlx,ht2,qs,qc]
  ·simp only [if_neg h255] at hlx ⊢
   simp only [toksV,List.isEmpty_nil,if_true] at hlx
   simp [f20,start,EvCall_closed H.c30 rfl,hlx,Psd.cs,stepsV,push_setk]
end Go.Pv
/- Rows of steps, and whether two of them are the same. Conditions: the functions' codes; theorems. -/
namespace Go.Pv
variable {E:Env} {x:Int}
def TreeV (v:AV) (t:List StepA):Prop:=(v = .nils∧t = [])∨∃ own,v = .vs own t.length (t.flatMap StepA.cs)
theorem stepsV_tree (t:List StepA):TreeV (stepsV t) t:=by
 unfold stepsV
 cases t with
 | nil=>exact .inl ⟨rfl,rfl⟩
 | cons a t=>exact .inr ⟨_,rfl⟩
theorem tree_shut {v:AV} {t:List StepA} (hv:TreeV v t):∃ v',shut 0 0 v = some v'∧TreeV v' t:=by
 have hs:=shutL_flat (n:=0) (t:=0) (f:=StepA.cs) (fun s=>s.shut) t
 rcases hv with ⟨rfl,rfl⟩ | ⟨own,rfl⟩
 ·exact ⟨.nils,by simp,.inl ⟨rfl,rfl⟩⟩
 ·exact ⟨.vs (match own with | .tok k sz=>if k < 0 then .tok k sz else .shared | o=>o) t.length (t.flatMap StepA.cs),by cases own <;> simp [hs],.inr ⟨_,rfl⟩⟩
end Go.Pv
/- Trees, and those that are made of numbers. Conditions: the functions' codes; theorems. -/
namespace Go.Pv
variable {E:Env} {h:AHeap} {p:Nat}
inductive Tr where
 | num (n:Int)
 | sym (p a n:Int)
 | alone (s:List UInt8)
 | note (t:Tr) (s:List UInt8)
 | inv (t:Tr)
 | bin (o:Int) (l r:Tr)
def stepO (o:Int):StepA:=⟨o,-1,0,0,0,[]⟩
def Tr.steps:Tr→List StepA
 | .num n=>[⟨1,-1,0,0,n,[]⟩]
 | .sym p a n=>[⟨2,p,a,n,0,[]⟩]
 | .alone s=>[⟨7,-1,0,0,0,s⟩]
 | .note t s=>t.steps++[⟨6,-1,0,0,0,s⟩]
 | .inv t=>t.steps++[stepO 5]
 | .bin o l r=>l.steps++r.steps++[stepO o]
theorem Tr.steps_pos:∀ t:Tr,1 ≤ t.steps.length
 | .num _ | .sym _ _ _ | .alone _=>by simp [Tr.steps]
 | .note t _ | .inv t=>by simp [Tr.steps]
 | .bin _ l r=>by simp only [Tr.steps,List.length_append,List.length_cons,List.length_nil]; omega
def nextI (n:Int):List Int→Int × List Int
 | []=>(0,[])
 | a :: r=>(a % n,r)
def notesL:List (List UInt8):=[[120],[97,32,98],[],[49,45,50],[35]]
def textI (l:List Int):List UInt8 × List Int:=(notesL.getD (nextI 5 l).1.toNat [],(nextI 5 l).2)
def metricT (a:Int):Bool:=((atomsT[a.toNat]?).map (·.metric)).getD false
def symI (l:List Int):Tr × List Int:=
 let a:=nextI atomsT.length l
 let c:=if metricT a.1 then nextI 2 a.2 else (1,a.2)
 let q:=if metricT a.1 && c.1 == 0 then nextI prefsT.length c.2 else (-1,c.2)
 let d:=nextI 3 q.2
 let n:=if d.1 == 0 then ((nextI 7 d.2).1 - 3,(nextI 7 d.2).2) else (1,d.2)
 (.sym q.1 a.1 n.1,n.2)
def madeI:Nat→List Int→Tr × List Int
 | 0,l=>symI (nextI 12 l).2
 | d + 1,l=>
  if (nextI 12 l).1 < 4 then symI (nextI 12 l).2 else
  if (nextI 12 l).1 == 4 then (.num (1 + (nextI 1200 (nextI 12 l).2).1),(nextI 1200 (nextI 12 l).2).2) else
  if (nextI 12 l).1 == 5 then (.alone (textI (nextI 12 l).2).1,(textI (nextI 12 l).2).2) else
  if (nextI 12 l).1 == 6 then (.note (madeI d (nextI 12 l).2).1 (textI (madeI d (nextI 12 l).2).2).1,(textI (madeI d (nextI 12 l).2).2).2) else
  if (nextI 12 l).1 == 7 then (.inv (madeI d (nextI 12 l).2).1,(madeI d (nextI 12 l).2).2) else
  (.bin (if (nextI 12 l).1 > 9 then 4 else 3) (madeI d (nextI 12 l).2).1 (madeI d (madeI d (nextI 12 l).2).2).1,(madeI d (madeI d (nextI 12 l).2).2).2)
def madeT (l:List Int):Tr:=(madeI 4 (l.take 120)).1
def IntsV (v:AV) (L:List Int):Prop:=(v = .nils∧L = [])∨∃ own,v = .vs own L.length (L.map (.int .i64))
structure RW (h:AHeap) (p:Nat) (L l:List Int):Prop where
 ex:∃ (i:Nat) (v:AV),i ≤ L.length∧L.drop i = l∧IntsV v L∧h.bl p = some (.cells [v,.int .i64 i])
 ro:h.ro = 0
 rot:h.rot ≤ h.toks.length
 sm:L.length < 1000000
theorem RW.lt {L l:List Int} (S:RW h p L l):p < h.blks.length:=by
 obtain ⟨⟨_,_,_,_,_,h1⟩,_⟩:=S
 exact blk_lt h1
theorem RW.stay {h':AHeap} {L l:List Int} (S:RW h p L l) (K:Stay p h h') (hp:h'.bl p = h.bl p):RW h' p L l:=by
 obtain ⟨⟨i,v,h1,h2,h3,h4⟩,h5,h6,h7⟩:=S
 exact ⟨⟨i,v,h1,h2,h3,hp.trans h4⟩,by rw [K.ro]; exact h5,by rw [K.rot]; exact Nat.le_trans h6 K.tlen,h7⟩
theorem RW.push {L l:List Int} (S:RW h p L l) (b:ABlk):RW (h.push b) p L l:=
 S.stay (Stay.push p h b) (by rw [bl_push,if_neg (by have:=S.lt; omega)])
theorem RW.toks {L l:List Int} (S:RW h p L l) {ts:List Nat} (ht:h.toks.length ≤ ts.length):RW (h.toks_ ts) p L l:=by
 obtain ⟨h1,h2,h3,h4⟩:=S
 exact ⟨h1,h2,Nat.le_trans h3 ht,h4⟩
theorem emod_go {a n:Int} (hn:0 < n) (hn2:n < 1000000):(IntKind.i64.wrap (a.tmod n + n)).tmod n = a % n:=by
 have hb:-n < a.tmod n∧a.tmod n < n:=⟨Int.lt_tmod_of_pos a hn,Int.tmod_lt_of_pos a hn⟩
 have hw:IntKind.i64.wrap (a.tmod n + n) = a.tmod n + n:=w64
 rw [hw]
 have h1:(a.tmod n + n).tmod n = (a.tmod n + n) % n:=Int.tmod_eq_emod_of_nonneg (by omega)
 rw [h1,Int.add_emod_right]
 have h3:a.tmod n = a - n * a.tdiv n:=by have:=Int.mul_tdiv_add_tmod a n; omega
 rw [h3,Int.sub_mul_emod_self_left]
theorem nextI_range {n:Int} (hn:0 < n) (l:List Int):0 ≤ (nextI n l).1∧(nextI n l).1 < n:=by
 cases l with
 | nil=>exact ⟨Int.le_refl _,hn⟩
 | cons a r=>exact ⟨Int.emod_nonneg a (by omega),Int.emod_lt_of_pos a hn⟩
theorem nextR_ok (H:Has 190 E) {L l:List Int} (S:RW h p L l) {n:Int} (hn:0 < n) (hn2:n < 1000000):∃ h',EvCall E (.fn (.func 190) [] []) [.ref p 0,.int .i64 n] h = some (.ret (.int .i64 (nextI n l).1),h')∧RW h' p L (nextI n l).2∧Stay p h h':=by
 have hp:=S.lt
 obtain ⟨⟨i,v,h1,h2,h3,h4⟩,h5,h6,h7⟩:=S
 have hn0:¬ n = 0:=by omega
 by_cases hi:i < L.length
 ·rw [List.drop_eq_getElem_cons hi] at h2
  rcases h3 with ⟨_,rfl⟩ | ⟨own,rfl⟩
  ·simp at hi
  ·have hge:decide ((L.length:Int) ≤ (i:Int)) = false:=decide_eq_false (by omega)
   have hge2:¬ L.length ≤ i:=by omega
   have w1:IntKind.i64.wrap ((i:Int) + 1) = (i:Int) + 1:=w64
   have w2:IntKind.i64.wrap ((i:Int) + 1 - 1) = (i:Int):=by rw [Int.add_sub_cancel]; exact w64
   have w3:IntKind.i64.wrap (i:Int) = (i:Int):=w64
   have hm:=emod_go (a:=L[i]) hn hn2
   subst h2
   refine ⟨h.setBlk p (.cells [.vs own L.length (L.map (.int .i64)),.int .i64 ((i:Int) + 1)]),?_,⟨⟨i + 1,_,by omega,rfl,.inr ⟨own,rfl⟩,by simp [h4]⟩,h5,h6,h7⟩,Stay.set p h _⟩
   rw [EvCall_open H.c190 rfl,EvFn_eq]
   simp [f190,start,h4,hge2,h5,w1,w3,hi,map_at hi,(by omega:1 ≤ L.length - i),hn0,hm,nextI]
 ·have:i = L.length:=by omega
  subst this
  have hl:l = []:=by rw [← h2]; simp
  subst hl
  refine ⟨h,?_,⟨⟨L.length,v,h1,h2,h3,h4⟩,h5,h6,h7⟩,Stay.refl p h⟩
  rw [EvCall_open H.c190 rfl,EvFn_eq]
  rcases h3 with ⟨rfl,rfl⟩ | ⟨own,rfl⟩
  ·simp at h4
   simp [f190,start,h4,nextI]
  ·simp [f190,start,h4,nextI]
theorem textR_ok (H:Has 192 E) {L l:List Int} (S:RW h p L l):∃ h',EvCall E (.fn (.func 192) [] []) [.ref p 0] h = some (.ret (.str (textI l).1),h')∧RW h' p L (textI l).2∧Stay p h h':=by
 have S1:=S.push (.cells [.str [120],.str [97,32,98],.str [],.str [49,45,50],.str [35]])
 obtain ⟨g,e1,S2,K2⟩:=nextR_ok (H.to 190) S1 (n:=5) (by omega) (by omega)
 have hr:=nextI_range (n:=5) (by omega) l
 have hb:g.bl h.blks.length = some (.cells [.str [120],.str [97,32,98],.str [],.str [49,45,50],.str [35]]):=(K2.bl _ (by have:=S.lt; omega) (by simp)).trans (by simp)
 refine ⟨g,?_,S2,(Stay.push p h _).trans K2⟩
 have ro:=S.ro
 rw [EvCall_open H.c192 rfl,EvFn_eq]
 unfold textI
 generalize (nextI 5 l).1 = k at *
 have hk:k = 0∨k = 1∨k = 2∨k = 3∨k = 4:=by omega
 rcases hk with rfl | rfl | rfl | rfl | rfl <;> simp [f192,start,push_set,ro,e1,hb,notesL]
end Go.Pv
/- The reference's functions on trees: what may be, what is taken, what is sound. Conditions: the functions' codes; theorems. -/
namespace Go.Pv
variable {E:Env} {h:AHeap}
def takesI (o:Int):Int:=if o == 3 || o == 4 then 2 else if o == 5 || o == 6 then 1 else 0
def printB (s:List UInt8):Bool:=s.all fun c=>decide (32 ≤ c.toNat) && decide (c.toNat ≤ 126)
inductive StepOk:StepA→Prop where
 | num (n:Int):1 ≤ n→StepOk ⟨1,-1,0,0,n,[]⟩
 | sym (p a n:Int):0 ≤ a→a < atomsT.length→-1 ≤ p→p < prefsT.length→-99 ≤ n→n ≤ 99→(p = -1∨metricT a = true)→StepOk ⟨2,p,a,n,0,[]⟩
 | op (o:Int):o = 3∨o = 4∨o = 5→StepOk ⟨o,-1,0,0,0,[]⟩
 | text (o:Int) (s:List UInt8):o = 6∨o = 7→printB s = true→s.length < 1000000→StepOk ⟨o,-1,0,0,0,s⟩
end Go.Pv
/- The reference's functions on trees: what is sound, and where it is cut. Conditions: the functions' codes; theorems. -/
namespace Go.Pv
variable {E:Env} {h:AHeap}
inductive TrOk:Tr→Prop where
 | num (n:Int):1 ≤ n→TrOk (.num n)
 | sym (p a n:Int):0 ≤ a→a < atomsT.length→-1 ≤ p→p < prefsT.length→-99 ≤ n→n ≤ 99→(p = -1∨metricT a = true)→TrOk (.sym p a n)
 | alone (s:List UInt8):printB s = true→s.length < 1000000→TrOk (.alone s)
 | note (t:Tr) (s:List UInt8):TrOk t→printB s = true→s.length < 1000000→TrOk (.note t s)
 | inv (t:Tr):TrOk t→TrOk (.inv t)
 | bin (o:Int) (l r:Tr):o = 3∨o = 4→TrOk l→TrOk r→TrOk (.bin o l r)
theorem tr_steps {t:Tr} (ht:TrOk t):∀ s ∈ t.steps,StepOk s:=by
 induction ht with
 | num n h1=>intro s hs; simp [Tr.steps] at hs; subst hs; exact .num n h1
 | sym p a n a0 a1 p0 p1 n0 n1 hm=>intro s hs; simp [Tr.steps] at hs; subst hs; exact .sym p a n a0 a1 p0 p1 n0 n1 hm
 | alone s h1 h2=>intro x hx; simp [Tr.steps] at hx; subst hx; exact .text 7 s (.inr rfl) h1 h2
 | note t s _ h1 h2 ih=>
  intro x hx
  simp only [Tr.steps,List.mem_append,List.mem_singleton] at hx
  rcases hx with hx | rfl
  ·exact ih x hx
  ·exact .text 6 s (.inl rfl) h1 h2
 | inv t _ ih=>
  intro x hx
  simp only [Tr.steps,List.mem_append,List.mem_singleton] at hx
  rcases hx with hx | rfl
  ·exact ih x hx
  ·exact .op 5 (.inr (.inr rfl))
 | bin o l r ho _ _ ih1 ih2=>
  intro x hx
  simp only [Tr.steps,List.mem_append,List.mem_singleton] at hx
  rcases hx with (hx | hx) | rfl
  ·exact ih1 x hx
  ·exact ih2 x hx
  ·exact .op o (by rcases ho with rfl | rfl <;> simp)
def leaves:Int→List StepA→Option Int
 | n,[]=>some n
 | n,x :: r=>if n < takesI x.op then none else leaves (n - takesI x.op + 1) r
end Go.Pv
/- The program's functions on trees: what may be, what is sound. Conditions: the functions' codes; theorems. -/
namespace Go.Pv
variable {E:Env} {h:AHeap}
theorem takes179_eq (H:Has 179 E) (s:StepA):EvClosed E (.fn (.func 179) [] []) [.agg s.cs] = some (.int .i64 (takesI s.op)):=by
 rw [EvClosed_eq H.c179 rfl (vs:=[.agg s.cs]) (by simp [StepA.cs]),EvFn_eq]
 unfold takesI
 cases h3:s.op == 3
 ·cases h4:s.op == 4
  ·cases h5:s.op == 5
   ·cases h6:s.op == 6 <;> simp [f179,start,StepA.cs,h3,h4,h5,h6]
   ·simp [f179,start,StepA.cs,h3,h4,h5]
  ·simp [f179,start,StepA.cs,h3,h4]
 ·simp [f179,start,StepA.cs,h3]
end Go.Pv
