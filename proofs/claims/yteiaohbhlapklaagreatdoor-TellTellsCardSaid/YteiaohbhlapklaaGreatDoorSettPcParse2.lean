/- A part of the proof: functions of the program in the evaluator's code, and what they come to. Conditions: none; definitions and theorems that the statement's proof uses. -/
import Derived.Test.YteiaohbhlapklaaGreatDoorSettPcLex8
import Derived.Test.YteiaohbhlapklaaGreatDoorSettPcLex2
/- The parser's heap: what stays, what grows. Conditions: none; definitions and lemmas. -/
namespace Go.Pv
variable {E:Env}
structure Stay (p:Nat) (h h':AHeap):Prop where
 bl:∀ b,b ≠ p→b < h.blks.length→h'.bl b = h.bl b
 len:h.blks.length ≤ h'.blks.length
 tk:∀ k,k < h.toks.length→h'.tk k = h.tk k
 tlen:h.toks.length ≤ h'.toks.length
 ro:h'.ro = h.ro
 rot:h'.rot = h.rot
theorem Stay.refl (p:Nat) (h:AHeap):Stay p h h:=⟨fun _ _ _=>rfl,Nat.le_refl _,fun _ _=>rfl,Nat.le_refl _,rfl,rfl⟩
theorem Stay.trans {p:Nat} {a b c:AHeap} (x:Stay p a b) (y:Stay p b c):Stay p a c:=
 ⟨fun i hp hi=>(y.bl i hp (Nat.lt_of_lt_of_le hi x.len)).trans (x.bl i hp hi),Nat.le_trans x.len y.len,fun k hk=>(y.tk k (Nat.lt_of_lt_of_le hk x.tlen)).trans (x.tk k hk),Nat.le_trans x.tlen y.tlen,y.ro.trans x.ro,y.rot.trans x.rot⟩
theorem Stay.push (p:Nat) (h:AHeap) (y:ABlk):Stay p h (h.push y):=
 ⟨fun b _ hb=>by rw [bl_push,if_neg (by omega)],by simp,fun _ _=>rfl,Nat.le_refl _,rfl,rfl⟩
theorem Stay.set (p:Nat) (h:AHeap) (y:ABlk):Stay p h (h.setBlk p y):=
 ⟨fun b hp _=>by rw [bl_set,if_neg (Ne.symm hp)],by simp,fun _ _=>rfl,Nat.le_refl _,rfl,rfl⟩
theorem Stay.old {p:Nat} {h h' h2:AHeap} {b:Nat} {y:ABlk} (k:Stay p h h2) (hb:h.blks.length ≤ b) (hl:h2.blks.length ≤ h'.blks.length) (he:h' = h2.setBlk b y) (_hp:b ≠ p):Stay p h h':=by
 subst he
 exact ⟨fun i q hi=>by rw [bl_set,if_neg (by omega)]; exact k.bl i q hi,by simpa using k.len,k.tk,k.tlen,k.ro,k.rot⟩
theorem Stay.setNew {p:Nat} {h h2:AHeap} {b:Nat} {y:ABlk} (k:Stay p h h2) (hb:h.blks.length ≤ b):Stay p h (h2.setBlk b y):=
 ⟨fun i q hi=>by rw [bl_set,if_neg (by omega)]; exact k.bl i q hi,by simpa using k.len,k.tk,k.tlen,k.ro,k.rot⟩
theorem Stay.toks {p:Nat} {h h2:AHeap} {ts:List Nat} (k:Stay p h h2) (h1:∀ i,i < h.toks.length→ts[i]? = h2.tk i) (h3:h2.toks.length ≤ ts.length):Stay p h (h2.toks_ ts):=
 ⟨k.bl,k.len,fun i hi=>(h1 i hi).trans (k.tk i hi),Nat.le_trans k.tlen h3,k.ro,k.rot⟩
def GrowF (k0:Nat) (h:AHeap) (sz:Nat) (cs:List AV) (len:Nat) (v:AV):Prop:=
 (len = 1∧v = .vs .full 1 cs∧cs.length = sz)∨∃ k,v = .vs (.tok k sz) len cs∧cs.length = len * sz∧h.tk k = some cs.length∧h.rot ≤ k∧k0 ≤ k∧2 ≤ len
theorem GrowF.cell {k0:Nat} {h:AHeap} {sz:Nat} {cs:List AV} {len:Nat} {v:AV} (g:GrowF k0 h sz cs len v):v.isCell = true:=by
 rcases g with ⟨_,rfl,_⟩ | ⟨k,rfl,_⟩ <;> simp
theorem GrowF.cells {k0:Nat} {h:AHeap} {sz:Nat} {cs:List AV} {len:Nat} {v:AV} (g:GrowF k0 h sz cs len v):v.cells? = some [v]:=by
 rcases g with ⟨_,rfl,_⟩ | ⟨k,rfl,_⟩ <;> simp
theorem GrowF.slice {k0:Nat} {h g:AHeap} {sz:Nat} {cs:List AV} {len:Nat} {v:AV} (q:GrowF k0 h sz cs len v):sliceCells g sz v = some (len,cs)∧cs.length = len * sz:=by
 rcases q with ⟨rfl,rfl,h1⟩ | ⟨k,rfl,h1,_⟩
 ·simp [sliceCells,h1]
 ·simp [sliceCells,h1]
theorem GrowF.keep {k0 p:Nat} {h h':AHeap} {sz:Nat} {cs:List AV} {len:Nat} {v:AV} (g:GrowF k0 h sz cs len v) (K:Stay p h h'):GrowF k0 h' sz cs len v:=by
 rcases g with g | ⟨k,g1,g2,g3,g4,g5⟩
 ·exact .inl g
 ·exact .inr ⟨k,g1,g2,(K.tk k (List.getElem?_eq_some_iff.1 g3).1).trans g3,by rw [K.rot]; exact g4,g5⟩
theorem GrowF.low {k0 k1:Nat} {h:AHeap} {sz:Nat} {cs:List AV} {len:Nat} {v:AV} (g:GrowF k0 h sz cs len v) (hk:k1 ≤ k0):GrowF k1 h sz cs len v:=by
 rcases g with g | ⟨k,g1,g2,g3,g4,g5,g6⟩
 ·exact .inl g
 ·exact .inr ⟨k,g1,g2,g3,g4,by omega,g6⟩
theorem growF_app {k0 p:Nat} {h0 h:AHeap} {sz bytes:Nat} {cs:List AV} {len m:Nat} {v x:AV} {xs:List AV} (g:GrowF k0 h sz cs len v) (hk0:k0 = h0.toks.length) (K:Stay p h0 h) (hr:h.rot ≤ h.toks.length) (hb:(len + m) * bytes ≤ 140737488355328) (hl:1 ≤ len) (hm:0 < m) (hsz:0 < sz)
  (hs:sliceCells h sz x = some (m,xs)) (hx:xs.length = m * sz) (hc:xs.all AV.isCell = true):
  ∃ ts v',appendA sz bytes h (den v) x = some (v',h.toks_ ts)∧GrowF k0 (h.toks_ ts) sz (cs++xs) (len + m) v'∧Stay p h0 (h.toks_ ts)∧h.toks.length ≤ ts.length:=by
 have hm0:¬ m = 0:=by omega
 have hc':=List.all_eq_true.1 hc
 subst hk0
 rcases g with ⟨rfl,rfl,h1⟩ | ⟨k,rfl,h1,h2,h3,h4,h5⟩
 ·refine ⟨h.toks++[cs.length + xs.length],.vs (.tok h.toks.length sz) (1 + m) (cs++xs),?_,.inr ⟨_,rfl,?_,?_,?_,K.tlen,by omega⟩,K.toks (fun i hi=>?_) (by simp),by simp⟩
  ·have hd:den (.vs .full 1 cs) = .vs .full 1 cs:=rfl
   rw [hd]
   simp [-sliceCells,appendA,hs,hx,hb,hsz,hm0,AHeap.toks_,h1]
   exact hc'
  ·simp [h1,hx,Nat.add_mul]
  ·simp [tk_toks]
  ·exact hr
  ·rw [List.getElem?_append_left (Nat.lt_of_lt_of_le hi K.tlen)]
   rfl
 ·have hkl:k < h.toks.length:=(List.getElem?_eq_some_iff.1 h2).1
  refine ⟨h.toks.set k (cs.length + xs.length),.vs (.tok k sz) (len + m) (cs++xs),?_,.inr ⟨_,rfl,?_,?_,h3,h4,by omega⟩,K.toks (fun i hi=>?_) (by simp),by simp⟩
  ·have hd:den (.vs (.tok k sz) len cs) = .vs (.tok k sz) len cs:=rfl
   rw [hd]
   rw [h1] at h2
   simp [-sliceCells,appendA,hs,hx,hb,hsz,hm0,AHeap.toks_,h1,h2,h3]
   exact hc'
  ·simp [h1,hx,Nat.add_mul]
  ·simp [tk_toks,hkl]
  ·rw [List.getElem?_set_ne (by omega)]
   rfl
theorem growF_one (k0:Nat) (h:AHeap) (s:StepA):GrowF k0 h 6 ([s].flatMap StepA.cs) [s].length (.vs .full 1 s.cs):=.inl ⟨rfl,by simp,by simp [StepA.len]⟩
def Sty.cl (y:Sty):List AV:=[.bool y.fold,b8 y.mul,b8 y.div,b8 y.pow,b8 y.opn,b8 y.cls]
def restV (l:List Tok):AV:=.vs .shared l.length (l.flatMap Tok.cs)
def RestV (lv:AV) (l:List Tok):Prop:=(l = []∧lv = .nils)∨lv = restV l
def UnkV (p:Nat) (h:AHeap) (uv:AV):Option Tok→Prop
 | none=>uv = .nilp
 | some t=>∃ b,uv = .ref b 0∧b ≠ p∧h.bl b = some (.cells t.cs)
def parsB (x sz:Int) (nest:Nat) (y:Sty) (lv uv:AV):ABlk:=.cells [.int .i64 x,.int .i64 sz,.int .i64 nest,.bool y.fold,b8 y.mul,b8 y.div,b8 y.pow,b8 y.opn,b8 y.cls,lv,uv]
structure PS (x sz:Int) (y:Sty) (p:Nat) (h:AHeap) (nest:Nat) (l:List Tok) (u:Option Tok):Prop where
 ex:∃ lv uv,h.bl p = some (parsB x sz nest y lv uv)∧RestV lv l∧UnkV p h uv u
 ro:h.ro = 0
 rot:h.rot ≤ h.toks.length
theorem RestV.len {lv:AV} {l:List Tok} (r:RestV lv l):lv = .nils∧l = []∨∃ cs,lv = .vs .shared l.length cs∧cs = l.flatMap Tok.cs:=by
 rcases r with ⟨h1,h2⟩ | h
 ·exact .inl ⟨h2,h1⟩
 ·exact .inr ⟨_,h,rfl⟩
theorem UnkV.keep {p:Nat} {h h':AHeap} {uv:AV} {u:Option Tok} (q:UnkV p h uv u) (K:Stay p h h'):UnkV p h' uv u:=by
 cases u with
 | none=>exact q
 | some t=>
  obtain ⟨b,h1,h2,h3⟩:=q
  exact ⟨b,h1,h2,(K.bl b h2 (blk_lt h3)).trans h3⟩
theorem PS.keep {x sz:Int} {y:Sty} {p nest:Nat} {h h':AHeap} {l:List Tok} {u:Option Tok} (S:PS x sz y p h nest l u) (K:Stay p h h') (hp:h'.bl p = h.bl p):PS x sz y p h' nest l u:=by
 obtain ⟨⟨lv,uv,h1,h2,h3⟩,h4,h5⟩:=S
 exact ⟨⟨lv,uv,hp.trans h1,h2,h3.keep K⟩,by rw [K.ro]; exact h4,by rw [K.rot]; exact Nat.le_trans h5 K.tlen⟩
theorem PS.lt {x sz:Int} {y:Sty} {p nest:Nat} {h:AHeap} {l:List Tok} {u:Option Tok} (S:PS x sz y p h nest l u):p < h.blks.length:=by
 obtain ⟨⟨lv,uv,h1,_⟩,_⟩:=S
 exact blk_lt h1
theorem PS.push {x sz:Int} {y:Sty} {p nest:Nat} {h:AHeap} {l:List Tok} {u:Option Tok} (S:PS x sz y p h nest l u) (b:ABlk):PS x sz y p (h.push b) nest l u:=
 S.keep (Stay.push p h b) (by rw [bl_push,if_neg (by have:=S.lt; omega)])
theorem PS.toks {x sz:Int} {y:Sty} {p nest:Nat} {h:AHeap} {l:List Tok} {u:Option Tok} (S:PS x sz y p h nest l u) {ts:List Nat} (ht:h.toks.length ≤ ts.length):PS x sz y p (h.toks_ ts) nest l u:=by
 obtain ⟨⟨lv,uv,h1,h2,h3⟩,h4,h5⟩:=S
 refine ⟨⟨lv,uv,h1,h2,?_⟩,h4,Nat.le_trans h5 ht⟩
 cases u with
 | none=>exact h3
 | some t=>exact h3
def errV (e:PErr):AV:=.iface 0 (.agg [.int .i64 e.1,.int .i64 e.2])
def Tells (E:Env) (x sz:Int) (y:Sty) (p:Nat) (h:AHeap) (nest:Nat) (f:Nat) (as:List AV):Res (List StepA)→Prop
 | .ok (t,l',u')=>∃ h' v,EvCall E (.fn (.func f) [] []) as h = some (.ret v,h')∧GrowF h.toks.length h' 6 (t.flatMap StepA.cs) t.length v∧PS x sz y p h' nest l' u'∧Stay p h h'
 | .error e=>∃ h',EvCall E (.fn (.func f) [] []) as h = some (.pan (errV e),h')∧Stay p h h'
def TellsN (E:Env) (x sz:Int) (y:Sty) (p:Nat) (h:AHeap) (nest:Nat) (u:Option Tok) (f:Nat) (as:List AV):Except PErr (Int × List Tok)→Prop
 | .ok (n,l')=>∃ h',EvCall E (.fn (.func f) [] []) as h = some (.ret (.int .i64 n),h')∧PS x sz y p h' nest l' u∧Stay p h h'
 | .error e=>∃ h',EvCall E (.fn (.func f) [] []) as h = some (.pan (errV e),h')∧Stay p h h'
end Go.Pv
/- The parser's steps: what stands there, and goes behind it. Conditions: the functions' codes; theorems. -/
namespace Go.Pv
variable {E:Env} {x sz:Int} {y:Sty} {p nest:Nat} {h:AHeap} {l:List Tok} {u:Option Tok}
theorem is_cell (H:Has 82 E) {lv:AV} {c0 c1 c2 c3 c4 c5 c6 c7 c8 c10:AV} (hb:h.bl p = some (.cells [c0,c1,c2,c3,c4,c5,c6,c7,c8,lv,c10])) (r:RestV lv l) (k:Int):
  EvCall E (.fn (.func 82) [] []) [.ref p 0,.int .i64 k] h = some (.ret (.bool (isT k l)),h):=by
 rw [EvCall_reader H.c82 rfl,EvFn_eq]
 rcases r.len with ⟨rfl,rfl⟩ | ⟨cs,rfl,hcs⟩
 ·simp [f82,start,hb,isT]
 ·cases l with
  | nil=>simp [f82,start,hb,isT]
  | cons t l=>
   have hlt:decide (0 < (l.length:Int) + 1) = true:=decide_eq_true (by omega)
   subst hcs
   simp [f82,start,hb,isT,Tok.cs]
theorem is_ok (H:Has 82 E) (S:PS x sz y p h nest l u) (k:Int):EvCall E (.fn (.func 82) [] []) [.ref p 0,.int .i64 k] h = some (.ret (.bool (isT k l)),h):=by
 obtain ⟨⟨lv,uv,h1,h2,h3⟩,h4,h5⟩:=S
 exact is_cell H h1 h2 k
theorem at_ok (H:Has 70 E) (S:PS x sz y p h nest l u):EvCall E (.fn (.func 70) [] []) [.ref p 0] h = some (.ret (.int .i64 (atT sz l)),h):=by
 obtain ⟨⟨lv,uv,h1,h2,h3⟩,h4,h5⟩:=S
 simp only [parsB] at h1
 rw [EvCall_open H.c70 rfl,EvFn_eq]
 rcases h2.len with ⟨rfl,rfl⟩ | ⟨cs,rfl,hcs⟩
 ·simp [f70,start,h1,atT]
 ·cases l with
  | nil=>simp [f70,start,h1,atT]
  | cons t l=>
   have hlt:¬ (l.length:Int) + 1 = 0:=by omega
   subst hcs
   simp [f70,start,h1,atT,Tok.cs,hlt]
theorem must_ok (H:Has 50 E) (h:AHeap):EvCall E (.fn (.func 50) [] []) [.ref p 0,.bool true] h = some (.ret (.tuple []),h):=by
 rw [EvCall_open H.c50 rfl,EvFn_eq]
 simp [f50,start]
theorem must_bad (H:Has 50 E) (S:PS x sz y p h nest l u):EvCall E (.fn (.func 50) [] []) [.ref p 0,.bool false] h = some (.pan (errV (14,atT sz l)),h):=by
 rw [EvCall_open H.c50 rfl,EvFn_eq]
 have:=at_ok (H.to 70) S
 simp [f50,start,this,errV]
theorem take_ok (H:Has 83 E) {t:Tok} (S:PS x sz y p h nest (t :: l) u):∃ h',EvCall E (.fn (.func 83) [] []) [.ref p 0] h = some (.ret (.agg t.cs),h')∧PS x sz y p h' nest l u∧Stay p h h':=by
 have hp:=S.lt
 obtain ⟨⟨lv,uv,h1,h2,h3⟩,h4,h5⟩:=S
 rw [EvCall_open H.c83 rfl,EvFn_eq]
 rcases h2.len with ⟨_,hq⟩ | ⟨cs,rfl,hcs⟩
 ·cases hq
 ·have n1:¬ p = h.blks.length:=by omega
  have n2:¬ p = h.blks.length + 1:=by omega
  have hm:∀ v uv,(parsB x sz nest y v uv) = .cells [.int .i64 x,.int .i64 sz,.int .i64 nest,.bool y.fold,b8 y.mul,b8 y.div,b8 y.pow,b8 y.opn,b8 y.cls,v,uv]:=fun _ _=>rfl
  have h1':=h1
  rw [hm] at h1'
  have huc:uv.isCell = true:=by
   cases u with
   | none=>rw [h3]; rfl
   | some q=>obtain ⟨b,hb,_⟩:=h3; rw [hb]; rfl
  have hle:(1:Int) ≤ (l.length:Int) + 1:=by omega
  obtain ⟨cl,hcl⟩:∃ cl,l.flatMap Tok.cs = cl:=⟨_,rfl⟩
  have hln:cl.length = l.length * 4:=by rw [← hcl,fm_len Tok.len]
  have hq:cl.length + 1 + 1 + 1 + 1 = (l.length + 1) * 4:=by omega
  have ht:∀ a b c d:AV,List.take ((l.length + 1) * 4) (a :: b :: c :: d :: cl) = a :: b :: c :: d :: cl:=fun a b c d=>List.take_of_length_le (by simp; omega)
  rw [List.flatMap_cons,hcl] at hcs
  subst hcs
  refine ⟨((((h.push (.cells [.int .i64 0,.int .i64 0,.str [],.int .i64 0])).push (.cells t.cs)).setBlk p (parsB x sz nest y (restV l) uv)).setBlk h.blks.length (.cells t.cs)),?_,?_,?_⟩
  ·simp [f83,start,h1',Tok.cs,n1,n2,h4,push_setk,hle,restV,hm,hq,ht,hcl,(by omega:4 ≤ (l.length + 1) * 4),(by omega:0 < (l.length + 1) * 4)]
  ·refine ⟨⟨restV l,uv,?_,.inr rfl,?_⟩,h4,h5⟩
   ·simp [n1,n2,h1']
    omega
   ·have K:Stay p h ((((h.push (.cells [.int .i64 0,.int .i64 0,.str [],.int .i64 0])).push (.cells t.cs)).setBlk p (parsB x sz nest y (restV l) uv)).setBlk h.blks.length (.cells t.cs)):=
     Stay.setNew (((Stay.push p h _).trans (Stay.push p _ _)).trans (Stay.set p _ _)) (Nat.le_refl _)
    exact h3.keep K
  ·exact Stay.setNew (((Stay.push p h _).trans (Stay.push p _ _)).trans (Stay.set p _ _)) (Nat.le_refl _)
theorem may_not (H:Has 68 E) (S:PS x sz y p h nest l u) {k:Int} (hk:isT k l = false):EvCall E (.fn (.func 68) [] []) [.ref p 0,.int .i64 k] h = some (.ret (.bool false),h):=by
 rw [EvCall_open H.c68 rfl,EvFn_eq]
 have:=is_ok (H.to 82) S k
 simp [f68,start,this,hk]
theorem may_ok (H:Has 68 E) {t:Tok} (S:PS x sz y p h nest (t :: l) u) {k:Int} (hk:t.kind = k):∃ h',EvCall E (.fn (.func 68) [] []) [.ref p 0,.int .i64 k] h = some (.ret (.bool true),h')∧PS x sz y p h' nest l u∧Stay p h h':=by
 obtain ⟨h',e,S',K⟩:=take_ok (H.to 83) S
 have:=is_ok (H.to 82) S k
 have hi:isT k (t :: l) = true:=by simp [isT,hk]
 refine ⟨h',?_,S',K⟩
 rw [EvCall_open H.c68 rfl,EvFn_eq]
 simp [f68,start,this,hi,e]
theorem number_ok (H:Has 95 E) (S:PS x sz y p h nest l u) (lo hi:Int):TellsN E x sz y p h nest u 95 [.ref p 0,.int .i64 lo,.int .i64 hi] (numP sz lo hi l):=by
 have hi2:=is_ok (H.to 82) S 2
 have hS:=S
 obtain ⟨⟨lv,uv,h1,h2,h3⟩,h4,h5⟩:=S
 simp only [parsB] at h1
 cases l with
 | nil=>
  refine ⟨h,?_,Stay.refl _ _⟩
  rw [EvCall_open H.c95 rfl,EvFn_eq]
  have hb:=must_bad (H.to 50) hS
  simp [f95,start,hi2,isT,hb]
  rfl
 | cons t l=>
  rcases h2.len with ⟨_,hq⟩ | ⟨cs,rfl,hcs⟩
  ·cases hq
  ·subst hcs
   have hlt:decide (0 < (l.length:Int) + 1) = true:=decide_eq_true (by omega)
   have hb:=must_bad (H.to 50) hS
   have hm:=must_ok (E:=E) (p:=p) (H.to 50) h
   obtain ⟨h',e,S',K⟩:=take_ok (H.to 83) hS
   cases hc:(t.kind == 2 && decide (lo ≤ t.n)) && decide (t.n ≤ hi) with
   | false=>
    simp only [numP,hc,Bool.false_eq_true,if_false]
    refine ⟨h,?_,Stay.refl _ _⟩
    rw [EvCall_open H.c95 rfl,EvFn_eq]
    cases hk:t.kind == 2
    ·simp [f95,start,hi2,isT,hk,hb]
     rfl
    ·cases hl:decide (lo ≤ t.n)
     ·simp [f95,start,hi2,isT,hk,hb,h1,Tok.cs,hl]
      rfl
     ·have hh:decide (t.n ≤ hi) = false:=by simpa [hk,hl] using hc
      simp [f95,start,hi2,isT,hk,hb,h1,Tok.cs,hl,hh]
      rfl
   | true=>
    simp only [Bool.and_eq_true] at hc
    have hi2':isT 2 (t :: l) = true:=by simpa [isT] using hc.1.1
    simp only [numP,hc,Bool.and_self,if_true]
    refine ⟨h',?_,S',K⟩
    rw [EvCall_open H.c95 rfl,EvFn_eq]
    simp [f95,start,hi2,hi2',h1,Tok.cs,hc.1.2,hc.2,hm,e]
end Go.Pv
