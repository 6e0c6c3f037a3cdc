/- A part of the proof: functions of the program in the evaluator's code, and what they come to. Conditions: none; definitions and theorems that the statement's proof uses. -/
import Derived.Test.YtamopjeecnhfaaaGreatDoorSetsPcParse6
import Derived.Test.YtamopjeecnhfaaaGreatDoorSetsPcSym3
import Derived.Test.YtamopjeecnhfaaaGreatDoorSetsPcSym2
/- The tree of tokens, and of a text. Conditions: the functions' codes; theorems. -/
namespace Go.Pv
variable {E:Env} {x sz:Int}
theorem growF_shut {k0:Nat} {h:AHeap} {t:List StepA} {v:AV} (g:GrowF k0 h 6 (t.flatMap StepA.cs) t.length v):shut 0 0 v = some (stepsV t):=by
 have hs:=shutL_flat (n:=0) (t:=0) (f:=StepA.cs) (fun s=>s.shut) t
 rcases g with ⟨h1,rfl,_⟩ | ⟨k,rfl,_,_,_,_,h5⟩
 ·have he:t.isEmpty = false:=by
   cases t with
   | nil=>simp at h1
   | cons a t=>rfl
  simp [stepsV,he,hs,h1]
 ·have he:t.isEmpty = false:=by
   cases t with
   | nil=>simp at h5
   | cons a t=>rfl
  have h1:¬ t.length = 1:=by omega
  simp [stepsV,he,hs,h1]
theorem stepsV_shut (t:List StepA):shut 0 0 (stepsV t) = some (stepsV t):=by
 have hs:=shutL_flat (n:=0) (t:=0) (f:=StepA.cs) (fun s=>s.shut) t
 unfold stepsV
 split
 ·simp
 ·split <;> simp [hs]
theorem stepsV_cell (t:List StepA):(stepsV t).isCell = true:=by
 unfold stepsV
 split <;> rfl
theorem def_none (H:Has 48 E) {h:AHeap} (hro:h.ro = 0):EvDef E 48 [.ref 0 0] none h = some (none,h.push (.cells [.int .i64 0,.int .i64 0])):=by
 rw [EvDef_eq H.c48]
 simp [f48,push_set,hro]
theorem def_some (H:Has 48 E) {h:AHeap} {a b c d:AV} (hb:h.bl 0 = some (.cells [a,b,c,d])) (hro:h.ro = 0) (e:PErr):
  EvDef E 48 [.ref 0 0] (some (errV e)) h = some (none,(h.push (.cells [.int .i64 e.1,.int .i64 e.2])).setBlk 0 (.cells [.nils,.int .i64 e.1,.int .i64 e.2,.int .i64 0])):=by
 have n0:=blk_ne hb
 rw [EvDef_eq H.c48]
 simp [f48,push_set,hro,errV,n0,hb]
theorem toksV_rest (l:List Tok):RestV (toksV l) l:=by
 cases l with
 | nil=>exact .inl ⟨rfl,rfl⟩
 | cons t l=>exact .inr rfl
theorem toksV_cells (l:List Tok):(toksV l).cells? = some [toksV l]:=by cases l <;> rfl
def heapP (x sz:Int) (lv:AV):AHeap:=((heap0.push (.cells [.nils,.int .i64 0,.int .i64 0,.int .i64 0])).push (.cells (sty x).cs)).push (parsB x sz 0 (sty x) lv .nilp)
theorem ps_first (l:List Tok):PS x sz (sty x) 2 (heapP x sz (toksV l)) 0 l none:=
 ⟨⟨toksV l,.nilp,by simp [heapP],toksV_rest l,rfl⟩,rfl,Nat.le_refl _⟩
theorem sty_cl (y:Sty):y.cs = [.bool y.fold,b8 y.mul,b8 y.div,b8 y.pow,b8 y.opn,b8 y.cls]:=rfl
theorem len_eq {y:Sty} {h:AHeap} {l:List Tok} {u:Option Tok} {p n:Nat} (S:PS x sz y p h n l u):∃ lv uv,h.bl p = some (.cells [.int .i64 x,.int .i64 sz,.int .i64 n,.bool y.fold,b8 y.mul,b8 y.div,b8 y.pow,b8 y.opn,b8 y.cls,lv,uv])∧((l = []∧lv = .nils)∨lv = restV l)∧UnkV p h uv u:=by
 obtain ⟨⟨lv,uv,h1,h2,h3⟩,_⟩:=S
 exact ⟨lv,uv,h1,h2,h3⟩
set_option maxHeartbeats 2000000 in
theorem tree_eq (H:Has 33 E) (hx:isN x = true) (l:List Tok) (hl:l.length < 900000) {lv:AV} (hlv:shut 0 0 lv = some (toksV l)):
  EvClosed E (.fn (.func 33) [] []) [.int .i64 x,lv,.int .i64 sz] = some (.agg (treeP x sz l).cs):=by
 rw [EvClosed_eq H.c33 rfl (vs:=[.int .i64 x,toksV l,.int .i64 sz]) (by simp [hlv]),EvFn_eq]
 have hof:=of_eq (H.to 44) x
 rw [hx,sty_cl] at hof
 have hx':1 ≤ x∧x ≤ 5:=by simpa [isN] using hx
 have q:=main_any (H.to 49) hx' 32 0 (by omega) _ l none (ps_first (x:=x) (sz:=sz) l) hl
 have hcl:=toksV_cells l
 unfold AV.cells? at hcl
 have hhp:heapP x sz (toksV l) = ((heap0.push (.cells [.nils,.int .i64 0,.int .i64 0,.int .i64 0])).push (.cells [.bool (sty x).fold,b8 (sty x).mul,b8 (sty x).div,b8 (sty x).pow,b8 (sty x).opn,b8 (sty x).cls])).push (.cells [.int .i64 x,.int .i64 sz,.int .i64 0,.bool (sty x).fold,b8 (sty x).mul,b8 (sty x).div,b8 (sty x).pow,b8 (sty x).opn,b8 (sty x).cls,toksV l,.nilp]):=rfl
 have hb0:(heapP x sz (toksV l)).bl 0 = some (.cells [.nils,.int .i64 0,.int .i64 0,.int .i64 0]):=by simp [heapP]
 have hl0:0 < (heapP x sz (toksV l)).blks.length:=by simp [heapP]
 unfold treeP
 cases hm:mainP x sz (levelP x sz 32) l none with
 | error e=>
  rw [hm] at q
  obtain ⟨h',e1,K⟩:=q
  have hb:h'.bl 0 = some (.cells [.nils,.int .i64 0,.int .i64 0,.int .i64 0]):=(K.bl 0 (by omega) hl0).trans hb0
  have hro:h'.ro = 0:=K.ro
  have n0:=blk_ne hb
  have hd:=def_some (H.to 48) hb hro e
  rw [hhp] at e1
  simp [f33,start,EvCall_closed H.c44 rfl,hof,push_setk,hcl,e1,hd,n0,hb,Psd.cs,stepsV]
 | ok w=>
  obtain ⟨t,l',u'⟩:=w
  rw [hm] at q
  obtain ⟨h',v,e1,G,S,K⟩:=q
  have hb:h'.bl 0 = some (.cells [.nils,.int .i64 0,.int .i64 0,.int .i64 0]):=(K.bl 0 (by omega) hl0).trans hb0
  have hro:h'.ro = 0:=K.ro
  have n0:=blk_ne hb
  rw [hhp] at e1
  obtain ⟨lw,uw,c1,c2,c3⟩:=len_eq S
  have hro2:∀ y,(h'.setBlk 0 y).ro = 0:=fun y=>hro
  have dn:=fun y=>def_none (H.to 48) (hro2 y)
  cases l' with
  | cons k m=>
   have mb:=must_bad (H.to 50) S
   have hd:=def_some (H.to 48) hb hro (14,k.pos)
   have c2':lw = restV (k :: m):=by
    rcases c2 with ⟨q,_⟩ | q
    ·cases q
    ·exact q
   subst c2'
   have hlt:((m.length:Int) + 1 == 0) = false:=by simp; omega
   simp only [atT] at mb
   simp only [restV] at c1
   simp [f33,start,EvCall_closed H.c44 rfl,hof,push_setk,hcl,e1,c1,hlt,mb,hd,n0,hb,Psd.cs,stepsV]
  | nil=>
   have mo:=must_ok (E:=E) (p:=2) (H.to 50) h'
   have hv:=growF_shut G
   have hvc:=G.cell
   have hvs:=G.cells
   unfold AV.cells? at hvs
   have c2':lw = .nils∨lw = .vs .shared 0 []:=by
    rcases c2 with ⟨_,q⟩ | q
    ·exact .inl q
    ·exact .inr q
   cases u' with
   | none=>
    have c3':uw = .nilp:=c3
    subst c3'
    rcases c2' with rfl | rfl <;> simp [f33,start,EvCall_closed H.c44 rfl,hof,push_setk,hcl,e1,c1,mo,dn,n0,hb,hro,hvc,hvs,hv,Psd.cs]
   | some tk=>
    obtain ⟨b,hb1,hb2,hb3⟩:=c3
    subst hb1
    simp only [Tok.cs] at hb3
    rcases c2' with rfl | rfl <;> simp [f33,start,EvCall_closed H.c44 rfl,hof,push_setk,hcl,e1,c1,mo,dn,n0,hb,hro,hb3,Psd.cs,stepsV]
set_option maxHeartbeats 2000000 in
theorem parse_eq (H:Has 20 E) (x:Int) (s:List UInt8) (hs:s.length < 900000):EvClosed E (.fn (.func 20) [] []) [.int .i64 x,.str s] = some (.agg (parseP x s).cs):=by
 rw [EvClosed_eq H.c20 rfl (vs:=[.int .i64 x,.str s]) (by simp),EvFn_eq]
 have hlx:=lex_eq (H.to 30) x s hs
 unfold lexR at hlx
 unfold parseP
 cases hn:isN x with
 | false=>
  rw [hn] at hlx
  simp only [Bool.false_eq_true,if_false] at hlx ⊢
  simp only [toksV,List.isEmpty_nil,if_true] at hlx
  simp [f20,start,EvCall_closed H.c30 rfl,hlx,Psd.cs,stepsV,push_setk]
 | true=>
  rw [hn] at hlx
  simp only [if_true] at hlx ⊢
  by_cases h255:s.length ≤ 255
  ·simp only [if_pos h255] at hlx ⊢
   have hlen:=lexF_len x s.length s 0
   have e:lexF x s.length s 0 = lexS x s:=rfl
   rw [e] at hlen
   by_cases hend:(lexS x s).2 < s.length
   ·simp only [if_pos hend] at hlx ⊢
    simp only [toksV,List.isEmpty_nil,if_true] at hlx
    obtain ⟨h',v,e1,G,hb,hro,hrot⟩:=seq_eq (H.to 31) (H.to 46) x s hs (.cells [.nils,.int .i64 0,.int .i64 0,.int .i64 0])
    have e0:=fun h=>each32_eq (H.to 32) (x:=x) (s:=s) (h:=h)
    obtain ⟨ts,v',a1,G2,ht⟩:=grow_app (h:=h') (bytes:=40) (m:=1) (xs:=Tok.cs ⟨0,(lexS x s).2,[],0⟩) G hrot (by omega) (by omega) (by omega) rfl (Tok.all _)
    have hsh:=grow_shut (l:=(lexS x s).1++[⟨0,(lexS x s).2,[],0⟩]) (by simpa using G2)
    have ht2:=tree_eq (H.to 33) (sz:=s.length) hn ((lexS x s).1++[⟨0,(lexS x s).2,[],0⟩]) (by simp; omega) hsh
    simp only [Tok.cs] at a1
    have n0:=blk_ne hb
    generalize treeP x s.length ((lexS x s).1++[⟨0,(lexS x s).2,[],0⟩]) = q at ht2 ⊢
    have qs:=stepsV_shut q.tree
    have qc:=stepsV_cell q.tree
    simp only [Psd.cs] at ht2 ⊢
    simp [-den,f20,start,EvCall_closed H.c30 rfl,EvCall_closed H.c33 rfl,hlx,e0,e1,a1,ht2,bl_toks,ro_toks,hb,hro,qs,qc]
   ·simp only [if_neg hend] at hlx ⊢
    have ht2:=tree_eq (H.to 33) (sz:=s.length) hn (lexS x s).1 (by omega) (toksV_shut _)
    generalize treeP x s.length (lexS x s).1 = q at ht2 ⊢
    have qs:=stepsV_shut q.tree
    have qc:=stepsV_cell q.tree
    simp only [Psd.cs] at ht2 ⊢
    simp [f20,start,EvCall_closed H.c30 rfl,EvCall_closed H.c33 rfl,hlx,ht2,qs,qc]
  ·simp only [if_neg h255] at hlx ⊢
   simp only [toksV,List.isEmpty_nil,if_true] at hlx
   simp [f20,start,EvCall_closed H.c30 rfl,hlx,Psd.cs,stepsV,push_setk]
end Go.Pv
/- Rows of steps, and whether two of them are the same. Conditions: the functions' codes; theorems. -/
namespace Go.Pv
variable {E:Env} {x:Int}
def TreeV (v:AV) (t:List StepA):Prop:=(v = .nils∧t = [])∨∃ own,v = .vs own t.length (t.flatMap StepA.cs)
theorem stepsV_tree (t:List StepA):TreeV (stepsV t) t:=by
 unfold stepsV
 cases t with
 | nil=>exact .inl ⟨rfl,rfl⟩
 | cons a t=>exact .inr ⟨_,rfl⟩
theorem tree_shut {v:AV} {t:List StepA} (hv:TreeV v t):∃ v',shut 0 0 v = some v'∧TreeV v' t:=by
 have hs:=shutL_flat (n:=0) (t:=0) (f:=StepA.cs) (fun s=>s.shut) t
 rcases hv with ⟨rfl,rfl⟩ | ⟨own,rfl⟩
 ·exact ⟨.nils,by simp,.inl ⟨rfl,rfl⟩⟩
 ·exact ⟨.vs (match own with | .tok k sz=>if k < 0 then .tok k sz else .shared | o=>o) t.length (t.flatMap StepA.cs),by cases own <;> simp [hs],.inr ⟨_,rfl⟩⟩
end Go.Pv
/- Trees, and those that are made of numbers. Conditions: the functions' codes; theorems. -/
namespace Go.Pv
variable {E:Env} {h:AHeap} {p:Nat}
inductive Tr where
 | num (n:Int)
 | sym (p a n:Int)
 | alone (s:List UInt8)
 | note (t:Tr) (s:List UInt8)
 | inv (t:Tr)
 | bin (o:Int) (l r:Tr)
def stepO (o:Int):StepA:=⟨o,-1,0,0,0,[]⟩
def Tr.steps:Tr→List StepA
 | .num n=>[⟨1,-1,0,0,n,[]⟩]
 | .sym p a n=>[⟨2,p,a,n,0,[]⟩]
 | .alone s=>[⟨7,-1,0,0,0,s⟩]
 | .note t s=>t.steps++[⟨6,-1,0,0,0,s⟩]
 | .inv t=>t.steps++[stepO 5]
 | .bin o l r=>l.steps++r.steps++[stepO o]
def metricT (a:Int):Bool:=((atomsT[a.toNat]?).map (·.metric)).getD false
def IntsV (v:AV) (L:List Int):Prop:=(v = .nils∧L = [])∨∃ own,v = .vs own L.length (L.map (.int .i64))
structure RW (h:AHeap) (p:Nat) (L l:List Int):Prop where
 ex:∃ (i:Nat) (v:AV),i ≤ L.length∧L.drop i = l∧IntsV v L∧h.bl p = some (.cells [v,.int .i64 i])
 ro:h.ro = 0
 rot:h.rot ≤ h.toks.length
 sm:L.length < 1000000
theorem RW.lt {L l:List Int} (S:RW h p L l):p < h.blks.length:=by
 obtain ⟨⟨_,_,_,_,_,h1⟩,_⟩:=S
 exact blk_lt h1
theorem RW.stay {h':AHeap} {L l:List Int} (S:RW h p L l) (K:Stay p h h') (hp:h'.bl p = h.bl p):RW h' p L l:=by
 obtain ⟨⟨i,v,h1,h2,h3,h4⟩,h5,h6,h7⟩:=S
 exact ⟨⟨i,v,h1,h2,h3,hp.trans h4⟩,by rw [K.ro]; exact h5,by rw [K.rot]; exact Nat.le_trans h6 K.tlen,h7⟩
theorem RW.push {L l:List Int} (S:RW h p L l) (b:ABlk):RW (h.push b) p L l:=
 S.stay (Stay.push p h b) (by rw [bl_push,if_neg (by have:=S.lt; omega)])
theorem RW.toks {L l:List Int} (S:RW h p L l) {ts:List Nat} (ht:h.toks.length ≤ ts.length):RW (h.toks_ ts) p L l:=by
 obtain ⟨h1,h2,h3,h4⟩:=S
 exact ⟨h1,h2,Nat.le_trans h3 ht,h4⟩
end Go.Pv
/- The reference's functions on trees: what may be, what is taken, what is sound. Conditions: the functions' codes; theorems. -/
namespace Go.Pv
variable {E:Env} {h:AHeap}
def takesI (o:Int):Int:=if o == 3 || o == 4 then 2 else if o == 5 || o == 6 then 1 else 0
def printB (s:List UInt8):Bool:=s.all fun c=>decide (32 ≤ c.toNat) && decide (c.toNat ≤ 126)
inductive StepOk:StepA→Prop where
 | num (n:Int):1 ≤ n→StepOk ⟨1,-1,0,0,n,[]⟩
 | sym (p a n:Int):0 ≤ a→a < atomsT.length→-1 ≤ p→p < prefsT.length→-99 ≤ n→n ≤ 99→(p = -1∨metricT a = true)→StepOk ⟨2,p,a,n,0,[]⟩
 | op (o:Int):o = 3∨o = 4∨o = 5→StepOk ⟨o,-1,0,0,0,[]⟩
 | text (o:Int) (s:List UInt8):o = 6∨o = 7→printB s = true→s.length < 1000000→StepOk ⟨o,-1,0,0,0,s⟩
end Go.Pv
/- The reference's functions on trees: what is sound, and where it is cut. Conditions: the functions' codes; theorems. -/
namespace Go.Pv
variable {E:Env} {h:AHeap}
inductive TrOk:Tr→Prop where
 | num (n:Int):1 ≤ n→TrOk (.num n)
 | sym (p a n:Int):0 ≤ a→a < atomsT.length→-1 ≤ p→p < prefsT.length→-99 ≤ n→n ≤ 99→(p = -1∨metricT a = true)→TrOk (.sym p a n)
 | alone (s:List UInt8):printB s = true→s.length < 1000000→TrOk (.alone s)
 | note (t:Tr) (s:List UInt8):TrOk t→printB s = true→s.length < 1000000→TrOk (.note t s)
 | inv (t:Tr):TrOk t→TrOk (.inv t)
 | bin (o:Int) (l r:Tr):o = 3∨o = 4→TrOk l→TrOk r→TrOk (.bin o l r)
def leaves:Int→List StepA→Option Int
 | n,[]=>some n
 | n,x :: r=>if n < takesI x.op then none else leaves (n - takesI x.op + 1) r
end Go.Pv
/- The program's functions on trees: what may be, what is sound. Conditions: the functions' codes; theorems. -/
namespace Go.Pv
variable {E:Env} {h:AHeap}
theorem takes179_eq (H:Has 179 E) (s:StepA):EvClosed E (.fn (.func 179) [] []) [.agg s.cs] = some (.int .i64 (takesI s.op)):=by
 rw [EvClosed_eq H.c179 rfl (vs:=[.agg s.cs]) (by simp [StepA.cs]),EvFn_eq]
 unfold takesI
 cases h3:s.op == 3
 ·cases h4:s.op == 4
  ·cases h5:s.op == 5
   ·cases h6:s.op == 6 <;> simp [f179,start,StepA.cs,h3,h4,h5,h6]
   ·simp [f179,start,StepA.cs,h3,h4,h5]
  ·simp [f179,start,StepA.cs,h3,h4]
 ·simp [f179,start,StepA.cs,h3]
end Go.Pv
/- Which steps may be: any step. Conditions: the functions' codes; theorems. -/
namespace Go.Pv
variable {E:Env} {h:AHeap}
def symB (p a n:Int):Bool:=decide (0 ≤ a) && (decide (a < atomsT.length) && (decide (-1 ≤ p) && (decide (p < prefsT.length) && (decide (-99 ≤ n) && (decide (n ≤ 99) && (p == -1 || metricT a))))))
def mayB (s:StepA):Bool:=
 if s.op = 1 then decide (1 ≤ s.num) && (s.pfx == -1 && (s.atom == 0 && (s.n == 0 && s.text == [])))
 else if s.op = 2 then symB s.pfx s.atom s.n && (s.num == 0 && s.text == [])
 else if s.op = 3∨s.op = 4∨s.op = 5 then s.pfx == -1 && (s.atom == 0 && (s.n == 0 && (s.num == 0 && s.text == [])))
 else if s.op = 6∨s.op = 7 then printB s.text && (s.pfx == -1 && (s.atom == 0 && (s.n == 0 && s.num == 0)))
 else false
theorem oddAt_lt:∀ s:List UInt8,decide (oddAt s < 0) = printB s
 | []=>rfl
 | c :: s=>by
  have ih:=oddAt_lt s
  simp only [oddAt,printB,List.all_cons] at ih ⊢
  by_cases hc:c.toNat < 32∨126 < c.toNat
  ·rw [if_pos hc]
   have:(decide (32 ≤ c.toNat) && decide (c.toNat ≤ 126)) = false:=by
    rw [Bool.and_eq_false_iff]
    simp only [decide_eq_false_iff_not]
    omega
   rw [this]
   rfl
  ·rw [if_neg hc]
   have:(decide (32 ≤ c.toNat) && decide (c.toNat ≤ 126)) = true:=by
    rw [Bool.and_eq_true]
    simp only [decide_eq_true_eq]
    omega
   rw [this,Bool.true_and,← ih]
   have:=odd_rng s
   generalize oddAt s = o at *
   split
   ·rename_i h; rw [h]
   ·rw [decide_eq_decide]
    omega
where
 odd_rng:∀ s:List UInt8,oddAt s = -1∨0 ≤ oddAt s
  | []=>.inl rfl
  | x :: s=>by
   simp only [oddAt]
   have:=odd_rng s
   split
   ·exact .inr (by decide)
   ·split
    ·exact .inl rfl
    ·exact .inr (by omega)
set_option maxRecDepth 20000 in
set_option maxHeartbeats 4000000 in
theorem symbol200_gen (H:Has 200 E) (o p a n m:Int) (t:List UInt8):EvClosed E (.fn (.func 200) [] []) [.agg (StepA.cs ⟨o,p,a,n,m,t⟩)] = some (.bool (symB p a n)):=by
 rw [EvClosed_eq H.c200 rfl (vs:=[.agg (StepA.cs ⟨o,p,a,n,m,t⟩)]) (by simp [StepA.cs]),EvFn_eq]
 have ht:=table_eq (H.to 38)
 simp only [Tb.V,Tb.A,Tb.P,progB] at ht
 by_cases ha:a < 0
 ·have e:symB p a n = false:=by simp [symB]; omega
  rw [e]
  generalize atomsT.flatMap (acs .shared) = cA at *
  simp [f200,start,StepA.cs,EvCall_closed H.c38 rfl,ht,push_setk,ha]
 obtain ⟨k,rfl⟩:∃ k:Nat,a = k:=⟨a.toNat,by omega⟩
 have d1:decide ((k:Int) < 0) = false:=decide_eq_false ha
 by_cases hkn:atomsT.length ≤ k
 ·have e:symB p k n = false:=by simp [symB]; omega
  have d2:decide ((atomsT.length:Int) ≤ (k:Int)) = true:=decide_eq_true (by omega)
  have d2':atomsT.length ≤ k:=by omega
  rw [e]
  generalize atomsT.flatMap (acs .shared) = cA at *
  simp [f200,start,StepA.cs,EvCall_closed H.c38 rfl,ht,push_setk,d1,d2']
 have hk:k < atomsT.length:=by omega
 have d2:decide ((atomsT.length:Int) ≤ (k:Int)) = false:=decide_eq_false (by omega)
 have d2':¬ atomsT.length ≤ k:=by omega
 have hm0:((atomsT.flatMap (acs .shared)).drop (k * 12 + 5)).take 1 = [.bool (metricT k)]:=by
  have:metricT k = atomsT[k].metric:=by simp [metricT,hk]
  rw [this,fm_at (acs_len .shared) hk (by omega)]
  rfl
 have hlA:(atomsT.flatMap (acs .shared)).length = atomsT.length * 12:=fm_len (acs_len .shared) _
 have hx1:k * 12 < atomsT.length * 12:=by omega
 have hx2:5 < atomsT.length * 12 - k * 12:=by omega
 have hx3:1 ≤ atomsT.length * 12 - (k * 12 + 5):=by omega
 generalize atomsT.flatMap (acs .shared) = cA at *
 by_cases hn:n < -99
 ·have e:symB p k n = false:=by simp [symB]; omega
  rw [e]
  simp [f200,start,StepA.cs,EvCall_closed H.c38 rfl,ht,push_setk,d1,d2',hn]
 have d5:decide (n < -99) = false:=decide_eq_false hn
 by_cases hn2:99 < n
 ·have e:symB p k n = false:=by simp [symB]; omega
  rw [e]
  simp [f200,start,StepA.cs,EvCall_closed H.c38 rfl,ht,push_setk,d1,d2',d5,hn2]
 have d6:decide (99 < n) = false:=decide_eq_false hn2
 have e0:symB p k n = (decide (-1 ≤ p) && (decide (p < prefsT.length) && (p == -1 || metricT k))):=by
  have q1:decide ((0:Int) ≤ (k:Int)) = true:=decide_eq_true (by omega)
  have q2:decide ((k:Int) < (atomsT.length:Int)) = true:=decide_eq_true (by omega)
  have q3:decide (-99 ≤ n) = true:=decide_eq_true (by omega)
  have q4:decide (n ≤ 99) = true:=decide_eq_true (by omega)
  simp only [symB,q1,q2,q3,q4,Bool.true_and]
 rw [e0]
 cases hp:p == -1 with
 | true=>
  have hp':p = -1:=by simpa using hp
  have q1:decide (-1 ≤ p) = true:=decide_eq_true (by omega)
  have q2:decide (p < (prefsT.length:Int)) = true:=decide_eq_true (by omega)
  rw [q1,q2]
  simp [f200,start,StepA.cs,EvCall_closed H.c38 rfl,ht,push_setk,d1,d2',d5,d6,hp]
 | false=>
  have hpn:¬ p = -1:=by simpa using hp
  by_cases hp0:0 ≤ p
  ·have q1:decide (-1 ≤ p) = true:=decide_eq_true (by omega)
   have d3:decide (0 ≤ p) = true:=decide_eq_true hp0
   rw [q1]
   by_cases hp1:p < (prefsT.length:Int)
   ·have d4:decide (p < (prefsT.length:Int)) = true:=decide_eq_true hp1
    rw [d4]
    simp [f200,start,StepA.cs,EvCall_closed H.c38 rfl,ht,push_setk,d1,d2',hp0,d4,d5,d6,hp,hk,hlA,hx1,hx2,hx3,hm0]
   ·have d4:decide (p < (prefsT.length:Int)) = false:=decide_eq_false hp1
    rw [d4]
    simp [f200,start,StepA.cs,EvCall_closed H.c38 rfl,ht,push_setk,d1,d2',hp0,d4,d5,d6,hp]
  ·have q1:decide (-1 ≤ p) = false:=decide_eq_false (by omega)
   have d3:decide (0 ≤ p) = false:=decide_eq_false hp0
   rw [q1]
   simp [f200,start,StepA.cs,EvCall_closed H.c38 rfl,ht,push_setk,d1,d2',hp0,d5,d6,hp]
set_option maxRecDepth 20000 in
set_option maxHeartbeats 4000000 in
theorem may180_gen (H:Has 180 E) (s:StepA):EvClosed E (.fn (.func 180) [] []) [.agg s.cs] = some (.bool (mayB s)):=by
 rw [EvClosed_eq H.c180 rfl (vs:=[.agg s.cs]) (by simp [StepA.cs]),EvFn_eq]
 obtain ⟨o,p,a,n,m,t⟩:=s
 unfold mayB
 by_cases h1:o = 1
 ·subst h1
  cases hm:decide (1 ≤ m) <;> simp [f180,start,StepA.cs,hm]
 by_cases h2:o = 2
 ·subst h2
  have hy:=symbol200_gen (H.to 200) 2 p a n m t
  simp only [StepA.cs] at hy
  cases hs:symB p a n <;> rw [hs] at hy <;> simp [f180,start,StepA.cs,EvCall_closed H.c200 rfl,hy]
 by_cases h3:o = 3∨o = 4∨o = 5
 ·rcases h3 with rfl | rfl | rfl <;> simp [f180,start,StepA.cs]
 by_cases h6:o = 6∨o = 7
 ·have hx:EvClosed E (.fn (.func 202) [] []) [.str t,.fn (.func 201) [] []] = some (.int .i64 (oddAt t)):=by
   rw [EvClosed_ext H.x202 (vs:=[.str t,.fn (.func 201) [] []]) (by simp)]
   rfl
  have hd:=oddAt_lt t
  cases hpr:printB t <;> rw [hpr] at hd <;> rcases h6 with rfl | rfl <;> simp [f180,start,StepA.cs,EvCall_ext H.x202,hx,hd]
 have g1:(o == 1) = false:=by simpa using h1
 have g2:(o == 2) = false:=by simpa using h2
 have g3:(o == 3) = false:=by simp; omega
 have g4:(o == 4) = false:=by simp; omega
 have g5:(o == 5) = false:=by simp; omega
 have g6:(o == 6) = false:=by simp; omega
 have g7:(o == 7) = false:=by simp; omega
 simp [f180,start,StepA.cs,g1,g2,g3,g4,g5,g6,g7,h1,h2,h3,h6]
end Go.Pv
/- The reference's functions on trees: where they are cut, their parts, brackets. Conditions: the functions' codes; theorems. -/
namespace Go.Pv
variable {E:Env}
def cutI (t:List StepA):Nat→Int→Nat
 | 0,_=>0
 | i + 1,need=>if 0 < need then cutI t i (need - 1 + takesI ((t[i]?.map (·.op)).getD 0)) else i + 1
theorem takes_range (o:Int):0 ≤ takesI o∧takesI o ≤ 2:=by
 unfold takesI
 split
 ·omega
 ·split <;> omega
def lastOp (t:List StepA):Int:=((t.getLast?).map (·.op)).getD 0
def looseB (o:Int):Bool:=o == 3 || o == 4 || o == 5
def inB (o:Int) (r:List StepA):Bool:=looseB (lastOp r) || (o == 6 && (lastOp r == 6 || lastOp r == 7))
end Go.Pv
/- The reference's functions on trees: parts, how deep brackets stand. Conditions: the functions' codes; theorems. -/
namespace Go.Pv
variable {E:Env}
def Tr.left:Tr→List StepA
 | .bin _ l _=>l.steps
 | _=>[]
def Tr.right:Tr→List StepA
 | .bin _ _ r=>r.steps
 | .note t _ | .inv t=>t.steps
 | _=>[]
structure PartsAt (t:Tr) (k:Int) (at_:Nat):Prop where
 takes:∀ a x,t.steps = a++[x]→takesI x.op = k
 cut:∀ a x,t.steps = a++[x]→k ≠ 0→cutI a a.length 1 = at_
 len:at_ = t.left.length
 kind:(k = 0∧t.left = []∧t.right = [])∨(k = 1∧t.left = [])∨k = 2
def Tr.deep:Tr→Nat
 | .note t _=>t.deep + (if inB 6 t.steps then 1 else 0)
 | .inv t=>t.deep + (if inB 5 t.steps then 1 else 0)
 | .bin o l r=>max (r.deep + (if inB o r.steps then 1 else 0)) l.deep
 | _=>0
end Go.Pv
