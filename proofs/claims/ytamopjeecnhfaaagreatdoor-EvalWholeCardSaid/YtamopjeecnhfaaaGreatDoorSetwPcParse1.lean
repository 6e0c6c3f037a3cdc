/- A part of the proof: functions of the program in the evaluator's code, and what they come to. Conditions: none; definitions and theorems that the statement's proof uses. -/
import Derived.Test.YtamopjeecnhfaaaGreatDoorSetwPcLex7
import Derived.Test.YtamopjeecnhfaaaGreatDoorSetwPcLex4
import Derived.Test.YtamopjeecnhfaaaGreatDoorSetwPcEv1
import Derived.Test.YtamopjeecnhfaaaGreatDoorSetwPcFr26
/- What a parser makes of tokens. Conditions: none; definitions and lemmas. -/
namespace Go.Pv
structure StepA where
 op:Int
 pfx:Int
 atom:Int
 n:Int
 num:Int
 text:List UInt8
 deriving DecidableEq
def StepA.cs (s:StepA):List AV:=[.int .i64 s.op,.int .i64 s.pfx,.int .i64 s.atom,.int .i64 s.n,.int .i64 s.num,.str s.text]
theorem StepA.len (s:StepA):s.cs.length = 6:=by simp [StepA.cs]
theorem StepA.all (s:StepA):s.cs.all AV.isCell = true:=by simp [StepA.cs]
theorem StepA.shut {n k:Nat} (s:StepA):shutL n k s.cs = some s.cs:=by simp [StepA.cs]
abbrev PErr:=Int × Int
abbrev Res (α:Type):=Except PErr (α × List Tok × Option Tok)
def atT (sz:Int):List Tok→Int
 | []=>sz
 | t :: _=>t.pos
def isT (k:Int):List Tok→Bool
 | []=>false
 | t :: _=>t.kind == k
def numP (sz lo hi:Int):List Tok→Except PErr (Int × List Tok)
 | []=>.error (14,sz)
 | t :: r=>if (t.kind == 2 && decide (lo ≤ t.n)) && decide (t.n ≤ hi) then .ok (t.n,r) else .error (14,t.pos)
def powN (sz:Int):List Tok→Except PErr (Int × List Tok)
 | []=>.error (14,sz)
 | t :: r=>if t.kind == 3 then (match numP sz 0 99 r with | .ok (n,r')=>.ok (if t.text == [45] then -n else n,r') | .error e=>.error e) else numP sz 0 99 (t :: r)
def powP (pow:Bool) (sz:Int) (l:List Tok):Except PErr (Int × List Tok):=
 if pow then (if isT 6 l then powN sz l.tail else .ok (1,l)) else if isT 3 l || isT 2 l then powN sz l else .ok (1,l)
def unkP (ok:Bool) (t:Tok) (u:Option Tok):Option Tok:=if !ok && u.isNone then some t else u
def symP (x sz:Int) (t:Tok) (r:List Tok) (u:Option Tok):Res (List StepA):=
 match powP ((sty x).pow != 0) sz r with
 | .ok (n,r')=>.ok ([⟨2,(findB (x - 1).toNat atomsT prefsT t.text).1,(findB (x - 1).toNat atomsT prefsT t.text).2.1,n,0,[]⟩],r',unkP (findB (x - 1).toNat atomsT prefsT t.text).2.2 t u)
 | .error e=>.error e
def maxNum:Int:=9223372036854775807
def baseP (x sz:Int) (inner:List Tok→Option Tok→Res (List StepA)):List Tok→Option Tok→Res (List StepA)
 | [],_=>.error (14,sz)
 | t :: r,u=>
  if t.kind == 1 then symP x sz t r u else
  if t.kind == 2 then (match numP sz 1 maxNum (t :: r) with | .ok (n,r')=>.ok ([⟨1,-1,0,0,n,[]⟩],r',u) | .error e=>.error e) else
  if t.kind == 7 then inner (t :: r) u else .error (14,t.pos)
def noteP:List StepA × List Tok × Option Tok→Res (List StepA)
 | (t,[],u)=>.ok (t,[],u)
 | (t,k :: r,u)=>if k.kind == 9 then .ok (t++[⟨6,-1,0,0,0,k.text⟩],r,u) else .ok (t,k :: r,u)
def itemB (x sz:Int) (inner:List Tok→Option Tok→Res (List StepA)) (l:List Tok) (u:Option Tok):Res (List StepA):=
 match baseP x sz inner l u with
 | .ok r=>noteP r
 | .error e=>.error e
def itemP (x sz:Int) (inner:List Tok→Option Tok→Res (List StepA)):List Tok→Option Tok→Res (List StepA)
 | [],u=>itemB x sz inner [] u
 | t :: r,u=>if t.kind == 9 then .ok ([⟨7,-1,0,0,0,t.text⟩],r,u) else itemB x sz inner (t :: r) u
def loopP (x sz:Int) (inner:List Tok→Option Tok→Res (List StepA)):Nat→List StepA→List Tok→Option Tok→Res (List StepA)
 | 0,t,l,u=>.ok (t,l,u)
 | _ + 1,t,[],u=>.ok (t,[],u)
 | f + 1,t,k :: r,u=>
  if k.kind == 4 || k.kind == 5 then
   match itemP x sz inner r u with
   | .ok (t',l',u')=>loopP x sz inner f (t++t'++[⟨if k.kind == 4 then 3 else 4,-1,0,0,0,[]⟩]) l' u'
   | .error e=>.error e
  else .ok (t,k :: r,u)
def mainP (x sz:Int) (inner:List Tok→Option Tok→Res (List StepA)) (l:List Tok) (u:Option Tok):Res (List StepA):=
 match itemP x sz inner (if isT 5 l then l.tail else l) u with
 | .ok (t,l',u')=>loopP x sz inner l'.length (if isT 5 l then t++[⟨5,-1,0,0,0,[]⟩] else t) l' u'
 | .error e=>.error e
def closeP (sz:Int):List StepA × List Tok × Option Tok→Res (List StepA)
 | (_,[],_)=>.error (14,sz)
 | (t,k :: r,u)=>if k.kind == 8 then .ok (t,r,u) else .error (14,k.pos)
def levelP (x sz:Int):Nat→List Tok→Option Tok→Res (List StepA)
 | 0,l,_=>.error (13,atT sz l)
 | r + 1,l,u=>
  match mainP x sz (levelP x sz r) l.tail u with
  | .ok q=>closeP sz q
  | .error e=>.error e
structure Psd where
 tree:List StepA
 err:Int
 pos:Int
 len:Int
 deriving DecidableEq
def treeP (x sz:Int) (l:List Tok):Psd:=
 match mainP x sz (levelP x sz 32) l none with
 | .error e=>⟨[],e.1,e.2,0⟩
 | .ok (_,k :: _,_)=>⟨[],14,k.pos,0⟩
 | .ok (_,[],some t)=>⟨[],15,t.pos,t.text.length⟩
 | .ok (t,[],none)=>⟨t,0,sz,0⟩
def stepsV (t:List StepA):AV:=if t.isEmpty then .nils else .vs (if t.length = 1 then .full else .shared) t.length (t.flatMap StepA.cs)
def Psd.cs (p:Psd):List AV:=[stepsV p.tree,.int .i64 p.err,.int .i64 p.pos,.int .i64 p.len]
def parseP (x:Int) (s:List UInt8):Psd:=
 if isN x then
  if s.length ≤ 255 then treeP x s.length (if (lexS x s).2 < s.length then (lexS x s).1++[⟨0,(lexS x s).2,[],0⟩] else (lexS x s).1)
  else ⟨[],12,0,0⟩
 else ⟨[],1,0,0⟩
def Fits (k:Nat) (l:List Tok):Res (List StepA)→Prop
 | .ok (t,l',_)=>t.length + l'.length + k ≤ l.length∧1 ≤ t.length
 | .error _=>True
theorem numP_len {sz lo hi:Int} {l:List Tok} {n:Int} {r:List Tok} (h:numP sz lo hi l = .ok (n,r)):r.length + 1 = l.length:=by
 cases l with
 | nil=>simp [numP] at h
 | cons t l=>
  simp only [numP] at h
  split at h
  ·cases h; simp
  ·cases h
theorem powN_len {sz:Int} {l:List Tok} {n:Int} {r:List Tok} (h:powN sz l = .ok (n,r)):r.length ≤ l.length:=by
 cases l with
 | nil=>simp [powN] at h
 | cons t l=>
  simp only [powN] at h
  split at h
  ·split at h
   ·rename_i h1
    have:=numP_len h1
    cases h
    simp only [List.length_cons]
    omega
   ·cases h
  ·have:=numP_len h
   omega
theorem powP_len {pow:Bool} {sz:Int} {l:List Tok} {n:Int} {r:List Tok} (h:powP pow sz l = .ok (n,r)):r.length ≤ l.length:=by
 unfold powP at h
 split at h
 ·split at h
  ·have:=powN_len h
   simp only [List.length_tail] at this
   omega
  ·cases h; exact Nat.le_refl _
 ·split at h
  ·exact powN_len h
  ·cases h; exact Nat.le_refl _
theorem symP_fits {x sz:Int} {t:Tok} {r:List Tok} {u:Option Tok}:Fits 0 (t :: r) (symP x sz t r u):=by
 unfold symP
 split
 ·rename_i h
  have:=powP_len h
  simp only [Fits,List.length_cons,List.length_nil]
  omega
 ·trivial
section
variable {x sz:Int} {inner:List Tok→Option Tok→Res (List StepA)}
theorem baseP_fits (hi:∀ l u,Fits 0 l (inner l u)):∀ l u,Fits 0 l (baseP x sz inner l u)
 | [],u=>trivial
 | t :: r,u=>by
  simp only [baseP]
  split
  ·exact symP_fits
  ·split
   ·cases h:numP sz 1 maxNum (t :: r) with
    | error e=>trivial
    | ok v=>
     obtain ⟨n,r'⟩:=v
     have:=numP_len h
     simp only [Fits,List.length_cons,List.length_nil] at this ⊢
     omega
   ·split
    ·exact hi _ _
    ·trivial
theorem itemB_fits (hi:∀ l u,Fits 0 l (inner l u)) (l:List Tok) (u:Option Tok):Fits 0 l (itemB x sz inner l u):=by
 have:=baseP_fits (x:=x) (sz:=sz) hi l u
 unfold itemB
 split
 ·rename_i r h
  rw [h] at this
  obtain ⟨t,l',u'⟩:=r
  simp only [Fits] at this
  cases l' with
  | nil=>exact this
  | cons k r=>
   simp only [noteP]
   split
   ·simp only [Fits,List.length_append,List.length_cons,List.length_nil] at this ⊢
    omega
   ·exact this
 ·trivial
theorem itemP_fits (hi:∀ l u,Fits 0 l (inner l u)):∀ (l:List Tok) (u:Option Tok),Fits 0 l (itemP x sz inner l u)
 | [],u=>itemB_fits (x:=x) (sz:=sz) hi [] u
 | t :: r,u=>by
  simp only [itemP]
  split
  ·simp only [Fits,List.length_cons,List.length_nil]
   omega
  ·exact itemB_fits hi _ _
theorem loopP_fits (hi:∀ l u,Fits 0 l (inner l u)):∀ (f:Nat) (t:List StepA) (l:List Tok) (u:Option Tok),1 ≤ t.length→∀ l0:List Tok,t.length + l.length ≤ l0.length→Fits 0 l0 (loopP x sz inner f t l u)
 | 0,t,l,u,h1,l0,h2=>⟨by omega,h1⟩
 | f + 1,t,[],u,h1,l0,h2=>⟨by simpa using h2,h1⟩
 | f + 1,t,k :: r,u,h1,l0,h2=>by
  simp only [List.length_cons] at h2
  simp only [loopP]
  split
  ·have:=itemP_fits (x:=x) (sz:=sz) hi r u
   split
   ·rename_i h
    rw [h] at this
    simp only [Fits] at this
    exact loopP_fits hi f _ _ _ (by simp only [List.length_append,List.length_cons,List.length_nil]; omega) l0 (by simp only [List.length_append,List.length_cons,List.length_nil]; omega)
   ·trivial
  ·exact ⟨by simp; omega,h1⟩
theorem mainP_fits (hi:∀ l u,Fits 0 l (inner l u)) (l:List Tok) (u:Option Tok):Fits 0 l (mainP x sz inner l u):=by
 unfold mainP
 have:=itemP_fits (x:=x) (sz:=sz) hi (if isT 5 l then l.tail else l) u
 split
 ·rename_i h
  rw [h] at this
  simp only [Fits] at this
  cases l with
  | nil=>
   have e:(if isT 5 ([]:List Tok) = true then ([]:List Tok).tail else []) = []:=by simp
   rw [e] at this
   simp only [List.length_nil] at this
   omega
  | cons k r=>
   split at this
   ·rename_i h5
    rw [if_pos h5]
    simp only [List.tail_cons] at this
    exact loopP_fits hi _ _ _ _ (by simp) _ (by simp; omega)
   ·rename_i h5
    rw [if_neg h5]
    exact loopP_fits hi _ _ _ _ (by omega) _ (by omega)
 ·trivial
end
theorem closeP_fits {sz:Int} {l:List Tok} {t:List StepA} {l':List Tok} {u:Option Tok} (h:Fits 0 l (.ok (t,l',u))):Fits 1 l (closeP sz (t,l',u)):=by
 cases l' with
 | nil=>trivial
 | cons k r=>
  simp only [closeP]
  split
  ·simp only [Fits,List.length_cons] at h ⊢
   omega
  ·trivial
theorem levelP_fits {x sz:Int}:∀ (d:Nat) (l:List Tok) (u:Option Tok),Fits 0 l (levelP x sz d l u)
 | 0,l,u=>trivial
 | d + 1,l,u=>by
  unfold levelP
  have:=mainP_fits (x:=x) (sz:=sz) (inner:=levelP x sz d) (levelP_fits (x:=x) (sz:=sz) d) l.tail u
  split
  ·rename_i q h
   rw [h] at this
   obtain ⟨t,l',u'⟩:=q
   have h1:=closeP_fits (sz:=sz) this
   cases hq:closeP sz (t,l',u') with
   | error e=>trivial
   | ok p=>
    rw [hq] at h1
    obtain ⟨a,b,c⟩:=p
    simp only [Fits,List.length_tail] at h1 ⊢
    omega
  ·trivial
end Go.Pv
/- The parser's heap: what stays, what grows. Conditions: none; definitions and lemmas. -/
namespace Go.Pv
variable {E:Env}
structure Stay (p:Nat) (h h':AHeap):Prop where
 bl:∀ b,b ≠ p→b < h.blks.length→h'.bl b = h.bl b
 len:h.blks.length ≤ h'.blks.length
 tk:∀ k,k < h.toks.length→h'.tk k = h.tk k
 tlen:h.toks.length ≤ h'.toks.length
 ro:h'.ro = h.ro
 rot:h'.rot = h.rot
theorem Stay.refl (p:Nat) (h:AHeap):Stay p h h:=⟨fun _ _ _=>rfl,Nat.le_refl _,fun _ _=>rfl,Nat.le_refl _,rfl,rfl⟩
theorem Stay.trans {p:Nat} {a b c:AHeap} (x:Stay p a b) (y:Stay p b c):Stay p a c:=
 ⟨fun i hp hi=>(y.bl i hp (Nat.lt_of_lt_of_le hi x.len)).trans (x.bl i hp hi),Nat.le_trans x.len y.len,fun k hk=>(y.tk k (Nat.lt_of_lt_of_le hk x.tlen)).trans (x.tk k hk),Nat.le_trans x.tlen y.tlen,y.ro.trans x.ro,y.rot.trans x.rot⟩
theorem Stay.push (p:Nat) (h:AHeap) (y:ABlk):Stay p h (h.push y):=
 ⟨fun b _ hb=>by rw [bl_push,if_neg (by omega)],by simp,fun _ _=>rfl,Nat.le_refl _,rfl,rfl⟩
theorem Stay.set (p:Nat) (h:AHeap) (y:ABlk):Stay p h (h.setBlk p y):=
 ⟨fun b hp _=>by rw [bl_set,if_neg (Ne.symm hp)],by simp,fun _ _=>rfl,Nat.le_refl _,rfl,rfl⟩
theorem Stay.old {p:Nat} {h h' h2:AHeap} {b:Nat} {y:ABlk} (k:Stay p h h2) (hb:h.blks.length ≤ b) (hl:h2.blks.length ≤ h'.blks.length) (he:h' = h2.setBlk b y) (_hp:b ≠ p):Stay p h h':=by
 subst he
 exact ⟨fun i q hi=>by rw [bl_set,if_neg (by omega)]; exact k.bl i q hi,by simpa using k.len,k.tk,k.tlen,k.ro,k.rot⟩
theorem Stay.setNew {p:Nat} {h h2:AHeap} {b:Nat} {y:ABlk} (k:Stay p h h2) (hb:h.blks.length ≤ b):Stay p h (h2.setBlk b y):=
 ⟨fun i q hi=>by rw [bl_set,if_neg (by omega)]; exact k.bl i q hi,by simpa using k.len,k.tk,k.tlen,k.ro,k.rot⟩
theorem Stay.toks {p:Nat} {h h2:AHeap} {ts:List Nat} (k:Stay p h h2) (h1:∀ i,i < h.toks.length→ts[i]? = h2.tk i) (h3:h2.toks.length ≤ ts.length):Stay p h (h2.toks_ ts):=
 ⟨k.bl,k.len,fun i hi=>(h1 i hi).trans (k.tk i hi),Nat.le_trans k.tlen h3,k.ro,k.rot⟩
def GrowF (k0:Nat) (h:AHeap) (sz:Nat) (cs:List AV) (len:Nat) (v:AV):Prop:=
 (len = 1∧v = .vs .full 1 cs∧cs.length = sz)∨∃ k,v = .vs (.tok k sz) len cs∧cs.length = len * sz∧h.tk k = some cs.length∧h.rot ≤ k∧k0 ≤ k∧2 ≤ len
theorem GrowF.cell {k0:Nat} {h:AHeap} {sz:Nat} {cs:List AV} {len:Nat} {v:AV} (g:GrowF k0 h sz cs len v):v.isCell = true:=by
 rcases g with ⟨_,rfl,_⟩ | ⟨k,rfl,_⟩ <;> simp
theorem GrowF.cells {k0:Nat} {h:AHeap} {sz:Nat} {cs:List AV} {len:Nat} {v:AV} (g:GrowF k0 h sz cs len v):v.cells? = some [v]:=by
 rcases g with ⟨_,rfl,_⟩ | ⟨k,rfl,_⟩ <;> simp
theorem GrowF.slice {k0:Nat} {h g:AHeap} {sz:Nat} {cs:List AV} {len:Nat} {v:AV} (q:GrowF k0 h sz cs len v):sliceCells g sz v = some (len,cs)∧cs.length = len * sz:=by
 rcases q with ⟨rfl,rfl,h1⟩ | ⟨k,rfl,h1,_⟩
 ·simp [sliceCells,h1]
 ·simp [sliceCells,h1]
theorem GrowF.keep {k0 p:Nat} {h h':AHeap} {sz:Nat} {cs:List AV} {len:Nat} {v:AV} (g:GrowF k0 h sz cs len v) (K:Stay p h h'):GrowF k0 h' sz cs len v:=by
 rcases g with g | ⟨k,g1,g2,g3,g4,g5⟩
 ·exact .inl g
 ·exact .inr ⟨k,g1,g2,(K.tk k (List.getElem?_eq_some_iff.1 g3).1).trans g3,by rw [K.rot]; exact g4,g5⟩
theorem GrowF.low {k0 k1:Nat} {h:AHeap} {sz:Nat} {cs:List AV} {len:Nat} {v:AV} (g:GrowF k0 h sz cs len v) (hk:k1 ≤ k0):GrowF k1 h sz cs len v:=by
 rcases g with g | ⟨k,g1,g2,g3,g4,g5,g6⟩
 ·exact .inl g
 ·exact .inr ⟨k,g1,g2,g3,g4,by omega,g6⟩
theorem growF_app {k0 p:Nat} {h0 h:AHeap} {sz bytes:Nat} {cs:List AV} {len m:Nat} {v x:AV} {xs:List AV} (g:GrowF k0 h sz cs len v) (hk0:k0 = h0.toks.length) (K:Stay p h0 h) (hr:h.rot ≤ h.toks.length) (hb:(len + m) * bytes ≤ 140737488355328) (hl:1 ≤ len) (hm:0 < m) (hsz:0 < sz)
  (hs:sliceCells h sz x = some (m,xs)) (hx:xs.length = m * sz) (hc:xs.all AV.isCell = true):
  ∃ ts v',appendA sz bytes h (den v) x = some (v',h.toks_ ts)∧GrowF k0 (h.toks_ ts) sz (cs++xs) (len + m) v'∧Stay p h0 (h.toks_ ts)∧h.toks.length ≤ ts.length:=by
 have hm0:¬ m = 0:=by omega
 have hc':=List.all_eq_true.1 hc
 subst hk0
 rcases g with ⟨rfl,rfl,h1⟩ | ⟨k,rfl,h1,h2,h3,h4,h5⟩
 ·refine ⟨h.toks++[cs.length + xs.length],.vs (.tok h.toks.length sz) (1 + m) (cs++xs),?_,.inr ⟨_,rfl,?_,?_,?_,K.tlen,by omega⟩,K.toks (fun i hi=>?_) (by simp),by simp⟩
  ·have hd:den (.vs .full 1 cs) = .vs .full 1 cs:=rfl
   rw [hd]
   simp [-sliceCells,appendA,hs,hx,hb,hsz,hm0,AHeap.toks_,h1]
   exact hc'
  ·simp [h1,hx,Nat.add_mul]
  ·simp [tk_toks]
  ·exact hr
  ·rw [List.getElem?_append_left (Nat.lt_of_lt_of_le hi K.tlen)]
   rfl
 ·have hkl:k < h.toks.length:=(List.getElem?_eq_some_iff.1 h2).1
  refine ⟨h.toks.set k (cs.length + xs.length),.vs (.tok k sz) (len + m) (cs++xs),?_,.inr ⟨_,rfl,?_,?_,h3,h4,by omega⟩,K.toks (fun i hi=>?_) (by simp),by simp⟩
  ·have hd:den (.vs (.tok k sz) len cs) = .vs (.tok k sz) len cs:=rfl
   rw [hd]
   rw [h1] at h2
   simp [-sliceCells,appendA,hs,hx,hb,hsz,hm0,AHeap.toks_,h1,h2,h3]
   exact hc'
  ·simp [h1,hx,Nat.add_mul]
  ·simp [tk_toks,hkl]
  ·rw [List.getElem?_set_ne (by omega)]
   rfl
theorem growF_one (k0:Nat) (h:AHeap) (s:StepA):GrowF k0 h 6 ([s].flatMap StepA.cs) [s].length (.vs .full 1 s.cs):=.inl ⟨rfl,by simp,by simp [StepA.len]⟩
def Sty.cl (y:Sty):List AV:=[.bool y.fold,b8 y.mul,b8 y.div,b8 y.pow,b8 y.opn,b8 y.cls]
def restV (l:List Tok):AV:=.vs .shared l.length (l.flatMap Tok.cs)
def RestV (lv:AV) (l:List Tok):Prop:=(l = []∧lv = .nils)∨lv = restV l
def UnkV (p:Nat) (h:AHeap) (uv:AV):Option Tok→Prop
 | none=>uv = .nilp
 | some t=>∃ b,uv = .ref b 0∧b ≠ p∧h.bl b = some (.cells t.cs)
def parsB (x sz:Int) (nest:Nat) (y:Sty) (lv uv:AV):ABlk:=.cells [.int .i64 x,.int .i64 sz,.int .i64 nest,.bool y.fold,b8 y.mul,b8 y.div,b8 y.pow,b8 y.opn,b8 y.cls,lv,uv]
structure PS (x sz:Int) (y:Sty) (p:Nat) (h:AHeap) (nest:Nat) (l:List Tok) (u:Option Tok):Prop where
 ex:∃ lv uv,h.bl p = some (parsB x sz nest y lv uv)∧RestV lv l∧UnkV p h uv u
 ro:h.ro = 0
 rot:h.rot ≤ h.toks.length
theorem RestV.len {lv:AV} {l:List Tok} (r:RestV lv l):lv = .nils∧l = []∨∃ cs,lv = .vs .shared l.length cs∧cs = l.flatMap Tok.cs:=by
 rcases r with ⟨h1,h2⟩ | h
 ·exact .inl ⟨h2,h1⟩
 ·exact .inr ⟨_,h,rfl⟩
theorem UnkV.keep {p:Nat} {h h':AHeap} {uv:AV} {u:Option Tok} (q:UnkV p h uv u) (K:Stay p h h'):UnkV p h' uv u:=by
 cases u with
 | none=>exact q
 | some t=>
  obtain ⟨b,h1,h2,h3⟩:=q
  exact ⟨b,h1,h2,(K.bl b h2 (blk_lt h3)).trans h3⟩
theorem PS.keep {x sz:Int} {y:Sty} {p nest:Nat} {h h':AHeap} {l:List Tok} {u:Option Tok} (S:PS x sz y p h nest l u) (K:Stay p h h') (hp:h'.bl p = h.bl p):PS x sz y p h' nest l u:=by
 obtain ⟨⟨lv,uv,h1,h2,h3⟩,h4,h5⟩:=S
 exact ⟨⟨lv,uv,hp.trans h1,h2,h3.keep K⟩,by rw [K.ro]; exact h4,by rw [K.rot]; exact Nat.le_trans h5 K.tlen⟩
theorem PS.lt {x sz:Int} {y:Sty} {p nest:Nat} {h:AHeap} {l:List Tok} {u:Option Tok} (S:PS x sz y p h nest l u):p < h.blks.length:=by
 obtain ⟨⟨lv,uv,h1,_⟩,_⟩:=S
 exact blk_lt h1
theorem PS.push {x sz:Int} {y:Sty} {p nest:Nat} {h:AHeap} {l:List Tok} {u:Option Tok} (S:PS x sz y p h nest l u) (b:ABlk):PS x sz y p (h.push b) nest l u:=
 S.keep (Stay.push p h b) (by rw [bl_push,if_neg (by have:=S.lt; omega)])
theorem PS.toks {x sz:Int} {y:Sty} {p nest:Nat} {h:AHeap} {l:List Tok} {u:Option Tok} (S:PS x sz y p h nest l u) {ts:List Nat} (ht:h.toks.length ≤ ts.length):PS x sz y p (h.toks_ ts) nest l u:=by
 obtain ⟨⟨lv,uv,h1,h2,h3⟩,h4,h5⟩:=S
 refine ⟨⟨lv,uv,h1,h2,?_⟩,h4,Nat.le_trans h5 ht⟩
 cases u with
 | none=>exact h3
 | some t=>exact h3
def errV (e:PErr):AV:=.iface 0 (.agg [.int .i64 e.1,.int .i64 e.2])
def Tells (E:Env) (x sz:Int) (y:Sty) (p:Nat) (h:AHeap) (nest:Nat) (f:Nat) (as:List AV):Res (List StepA)→Prop
 | .ok (t,l',u')=>∃ h' v,EvCall E (.fn (.func f) [] []) as h = some (.ret v,h')∧GrowF h.toks.length h' 6 (t.flatMap StepA.cs) t.length v∧PS x sz y p h' nest l' u'∧Stay p h h'
 | .error e=>∃ h',EvCall E (.fn (.func f) [] []) as h = some (.pan (errV e),h')∧Stay p h h'
def TellsN (E:Env) (x sz:Int) (y:Sty) (p:Nat) (h:AHeap) (nest:Nat) (u:Option Tok) (f:Nat) (as:List AV):Except PErr (Int × List Tok)→Prop
 | .ok (n,l')=>∃ h',EvCall E (.fn (.func f) [] []) as h = some (.ret (.int .i64 n),h')∧PS x sz y p h' nest l' u∧Stay p h h'
 | .error e=>∃ h',EvCall E (.fn (.func f) [] []) as h = some (.pan (errV e),h')∧Stay p h h'
end Go.Pv
