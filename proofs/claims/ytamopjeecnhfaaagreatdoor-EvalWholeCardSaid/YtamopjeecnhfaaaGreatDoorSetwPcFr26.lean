/- A part of the proof: functions of the program in the evaluator's code, and what they come to. Conditions: none; definitions and theorems that the statement's proof uses. -/
import Derived.Test.YtamopjeecnhfaaaGreatDoorSetwPcFr21
import Derived.Test.YtamopjeecnhfaaaGreatDoorSetwPcLib
/- The reference's worths: Right, Of, Mul, Div, Pow. Conditions: the functions' codes; theorems. -/
namespace Go.Pv
variable {E:Env}
def gtW (r:Except Int Wo):AV:=.agg (match r with | .ok w=>w.C++[.int .i64 0] | .error e=>wo0C++[.int .i64 e])
theorem right317 (H:Has 317 E) {w:Wo} (hw:WoOk w):EvClosed E (.fn (.func 317) [] []) [w.A] = some (.bool true):=by
 obtain ⟨f,d,tag⟩:=w
 have q1:=right318 (H.to 318) hw.f
 have q2:=dref_right (H.to 321) hw.len
 rw [hw.d] at q2
 obtain ⟨a0,a1,a2,a3,a4,a5,a6,hd⟩:=seven hw.len
 have h0:=hw.t0
 have h1:=hw.t1
 dsimp only at *
 subst hd
 simp only [Wo.A,Wo.C,fcA,fcC,dC,List.map_cons,List.map_nil,List.cons_append,List.nil_append] at *
 rw [EvClosed_eq H.c317 rfl (vs:=[.agg [.int .i64 f.num,.int .i64 f.den,.int .i64 f.ten,.int .i64 a0,.int .i64 a1,.int .i64 a2,.int .i64 a3,.int .i64 a4,.int .i64 a5,.int .i64 a6,.int .i64 tag]]) (by simp),EvFn_eq]
 simp [f317,start,EvCall_closed H.c318 rfl,EvCall_closed H.c321 rfl,q1,q2,h0,h1]
theorem may296 (H:Has 296 E) {a b:Wo} (ha:WoOk a) (hb:WoOk b):EvClosed E (.fn (.func 296) [] []) [a.A,b.A] = some (.int .i64 (if a.tag ≠ 0∨b.tag ≠ 0 then 18 else 0)):=by
 rw [EvClosed_eq H.c296 rfl (vs:=[a.A,b.A]) (by simp [Wo.A,Wo.C_shut]),EvFn_eq]
 have q1:=right317 (H.to 317) ha
 have q2:=right317 (H.to 317) hb
 obtain ⟨f,d,tag⟩:=a
 obtain ⟨f',d',tag'⟩:=b
 obtain ⟨a0,a1,a2,a3,a4,a5,a6,hd⟩:=seven ha.len
 obtain ⟨b0,b1,b2,b3,b4,b5,b6,hd'⟩:=seven hb.len
 dsimp only at *
 subst hd hd'
 simp only [Wo.A,Wo.C,fcC,dC,List.map_cons,List.map_nil,List.cons_append,List.nil_append] at *
 by_cases h1:tag = 0
 ·by_cases h2:tag' = 0
  ·subst h1 h2
   simp [f296,start,EvCall_closed H.c317 rfl,q1,q2]
  ·have h2':(tag' != 0) = true:=by simpa using h2
   subst h1
   simp [f296,start,EvCall_closed H.c317 rfl,q1,q2,h2,h2']
 ·have h1':(tag != 0) = true:=by simpa using h1
  simp [f296,start,EvCall_closed H.c317 rfl,q1,q2,h1,h1']
theorem put297 (H:Has 297 E) {r:Except Int Fc} {d:List Int} (hd:d.length = 7) (hne:∀ e,r = .error e→e ≠ 0):
  EvClosed E (.fn (.func 297) [] []) [gtF r,gtD d] = some (gtW (putR false r d)):=by
 have hz:(if dOk d then d else d0).length = 7:=by split; exact hd; rfl
 have hsh:shutL 0 0 (dC (if dOk d then d else d0)++[.bool (dOk d)]) = some (dC (if dOk d then d else d0)++[.bool (dOk d)]):=shutL_app _ _ (shutL_dC _) rfl
 rw [EvClosed_eq H.c297 rfl (vs:=[gtF r,gtD d]) (by
  cases r <;> simp [gtF,gtC,fcC,gtD,hsh]),EvFn_eq]
 cases r with
 | error e=>
  have he:(e != 0) = true:=by simpa using hne e rfl
  have l1:(dC (if dOk d then d else d0)++[AV.bool (dOk d)]).length = 8:=by simp [dC_len,hz]
  simp only [gtD]
  generalize (dC (if dOk d then d else d0)++[AV.bool (dOk d)]) = D at *
  simp [f297,start,gtF,gtC,he,l1,push_setk,gtW,putR,wo0C]
 | ok f=>
  unfold gtD
  cases hk:dOk d with
  | true=>
   obtain ⟨a0,a1,a2,a3,a4,a5,a6,rfl⟩:=seven hd
   simp [f297,start,gtF,gtC,fcC,dC,push_setk,gtW,putR,hk,Wo.C]
  | false=>
   simp [f297,start,gtF,gtC,fcC,dC,d0,push_setk,gtW,putR,hk,wo0C]
theorem gtW_shape {tg:Bool} {r:Except Int Fc} {d:List Int} (hd:d.length = 7):∃ (cs:List AV),gtW (putR tg r d) = .agg cs∧cs.length = 12∧cs.all AV.isCell = true∧shutL 0 0 cs = some cs:=by
 unfold putR
 cases tg with
 | true=>exact ⟨_,rfl,rfl,rfl,rfl⟩
 | false=>
  cases r with
  | error e=>exact ⟨_,rfl,rfl,rfl,rfl⟩
  | ok f=>
   cases hk:dOk d with
   | true=>exact ⟨(⟨f,d,0⟩:Wo).C++[.int .i64 0],by simp [gtW],by simp [Wo.C_len (w:=⟨f,d,0⟩) hd],by rw [List.all_append,Wo.C_all]; rfl,shutL_app _ _ (Wo.C_shut _) rfl⟩
   | false=>exact ⟨_,by simp [gtW]; rfl,rfl,rfl,rfl⟩
theorem putR_tag {r:Except Int Fc} {d:List Int}:putR true r d = .error 18:=rfl
abbrev z12C:List AV:=[.int .i64 0,.int .i64 0,.int .i64 0,.int .i64 0,.int .i64 0,.int .i64 0,.int .i64 0,.int .i64 0,.int .i64 0,.int .i64 0,.int .i64 0,.int .i64 0]
theorem set_12 {l:List AV} (h:l.length = 12):setCells 0 l z12C = l:=setCells_full (by rw [h]; rfl)
theorem gtF_cs (r:Except Int Fc):∃ cs,gtF r = .agg cs∧cs.length = 4:=by
 cases r with
 | ok f=>exact ⟨_,rfl,rfl⟩
 | error e=>exact ⟨_,rfl,rfl⟩
set_option maxRecDepth 20000 in
set_option maxHeartbeats 1000000 in
theorem mul284 (H:Has 284 E) {a b:Wo} (ha:WoOk a) (hb:WoOk b):EvClosed E (.fn (.func 284) [] []) [a.A,b.A] = some (gtW (mulW a b)):=by
 rw [EvClosed_eq H.c284 rfl (vs:=[a.A,b.A]) (by simp [Wo.A,Wo.C_shut]),EvFn_eq]
 have hz:(addD a.d b.d).length = 7:=by unfold addD; rw [List.length_zipWith,ha.len,hb.len]; rfl
 have q0:=may296 (H.to 296) ha hb
 have q1:=mul298 (H.to 298) ha.f hb.f
 have q2:=add299 (H.to 299) (n:=1) ha.len hb.len ha.d hb.d (Or.inl rfl) (v:=addD a.d b.d) hz (by intro i hi; simp [addD])
 have q3:=put297 (H.to 297) (r:=mulF a.f b.f) (d:=addD a.d b.d) hz (fun e he=>mulF_ne he)
 have l1:=Wo.C_len ha.len
 have l2:=Wo.C_len hb.len
 have t1:a.C.take 11 = a.C:=List.take_of_length_le (by omega)
 have t2:b.C.take 11 = b.C:=List.take_of_length_le (by omega)
 have u1:=Wo.C_f a
 have u2:=Wo.C_f b
 have u3:=Wo.C_d ha.len
 have u4:=Wo.C_d hb.len
 have l3:(dC a.d).length = 7:=by rw [dC_len,ha.len]
 have l4:(dC b.d).length = 7:=by rw [dC_len,hb.len]
 unfold mulW
 simp only [Wo.A,fcA] at *
 by_cases hp:a.tag ≠ 0∨b.tag ≠ 0
 ·rw [if_pos hp] at q0
  have:(decide (a.tag ≠ 0) || decide (b.tag ≠ 0)) = true:=by simpa using hp
  rw [this,putR_tag]
  generalize a.C = A at *
  generalize b.C = B at *
  simp [f284,start,l1,l2,t1,t2,EvCall_closed H.c296 rfl,q0,push_setk,gtW,wo0C]
 ·rw [if_neg hp] at q0
  have:(decide (a.tag ≠ 0) || decide (b.tag ≠ 0)) = false:=by simpa using hp
  rw [this]
  obtain ⟨cs,e1,e2,e3,e4⟩:=gtW_shape (tg:=false) (r:=mulF a.f b.f) hz
  rw [e1] at q3 ⊢
  have s0:=set_12 e2
  obtain ⟨F,e5,e6⟩:=gtF_cs (mulF a.f b.f)
  rw [e5] at q1 q3
  unfold gtD at q2 q3
  generalize dC (if dOk (addD a.d b.d) then addD a.d b.d else d0)++[.bool (dOk (addD a.d b.d))] = D at *
  generalize a.C = A at *
  generalize b.C = B at *
  generalize dC a.d = DA at *
  generalize dC b.d = DB at *
  generalize fcC a.f = FA at *
  generalize fcC b.f = FB at *
  have t3:cs.take 12 = cs:=List.take_of_length_le (by omega)
  simp [f284,start,l1,l2,t1,t2,u1,u2,u3,u4,EvCall_closed H.c296 rfl,q0,q1,q2,q3,s0,t3,e2,e3,e4,push_setk]
set_option maxRecDepth 20000 in
set_option maxHeartbeats 1000000 in
theorem div285 (H:Has 285 E) {a b:Wo} (ha:WoOk a) (hb:WoOk b):EvClosed E (.fn (.func 285) [] []) [a.A,b.A] = some (gtW (divW a b)):=by
 rw [EvClosed_eq H.c285 rfl (vs:=[a.A,b.A]) (by simp [Wo.A,Wo.C_shut]),EvFn_eq]
 have hz:(subD a.d b.d).length = 7:=by unfold subD; rw [List.length_zipWith,ha.len,hb.len]; rfl
 have q0:=may296 (H.to 296) ha hb
 have q1:=div300 (H.to 300) ha.f hb.f
 have q2:=add299 (H.to 299) (n:=-1) ha.len hb.len ha.d hb.d (Or.inr rfl) (v:=subD a.d b.d) hz (by intro i hi; simp [subD]; omega)
 have q3:=put297 (H.to 297) (r:=divF a.f b.f) (d:=subD a.d b.d) hz (fun e he=>divF_ne he)
 have l1:=Wo.C_len ha.len
 have l2:=Wo.C_len hb.len
 have t1:a.C.take 11 = a.C:=List.take_of_length_le (by omega)
 have t2:b.C.take 11 = b.C:=List.take_of_length_le (by omega)
 have u1:=Wo.C_f a
 have u2:=Wo.C_f b
 have u3:=Wo.C_d ha.len
 have u4:=Wo.C_d hb.len
 have l3:(dC a.d).length = 7:=by rw [dC_len,ha.len]
 have l4:(dC b.d).length = 7:=by rw [dC_len,hb.len]
 unfold divW
 simp only [Wo.A,fcA] at *
 by_cases hp:a.tag ≠ 0∨b.tag ≠ 0
 ·rw [if_pos hp] at q0
  have:(decide (a.tag ≠ 0) || decide (b.tag ≠ 0)) = true:=by simpa using hp
  rw [this,putR_tag]
  generalize a.C = A at *
  generalize b.C = B at *
  simp [f285,start,l1,l2,t1,t2,EvCall_closed H.c296 rfl,q0,push_setk,gtW,wo0C]
 ·rw [if_neg hp] at q0
  have:(decide (a.tag ≠ 0) || decide (b.tag ≠ 0)) = false:=by simpa using hp
  rw [this]
  obtain ⟨cs,e1,e2,e3,e4⟩:=gtW_shape (tg:=false) (r:=divF a.f b.f) hz
  rw [e1] at q3 ⊢
  have s0:=set_12 e2
  obtain ⟨F,e5,e6⟩:=gtF_cs (divF a.f b.f)
  rw [e5] at q1 q3
  unfold gtD at q2 q3
  generalize dC (if dOk (subD a.d b.d) then subD a.d b.d else d0)++[.bool (dOk (subD a.d b.d))] = D at *
  generalize a.C = A at *
  generalize b.C = B at *
  generalize dC a.d = DA at *
  generalize dC b.d = DB at *
  generalize fcC a.f = FA at *
  generalize fcC b.f = FB at *
  have t3:cs.take 12 = cs:=List.take_of_length_le (by omega)
  simp [f285,start,l1,l2,t1,t2,u1,u2,u3,u4,EvCall_closed H.c296 rfl,q0,q1,q2,q3,s0,t3,e2,e3,e4,push_setk]
theorem ofW_put (n:Int):ofW n = putR false (makeF n 1 0) d0:=by
 unfold ofW putR
 cases makeF n 1 0 <;> rfl
theorem makeF_ne {n d t e:Int} (h:makeF n d t = .error e):e ≠ 0:=by
 unfold makeF overE at h
 split at h
 ·cases h; decide
 ·split at h
  ·cases h
  ·split at h
   ·cases h; decide
   ·split at h
    ·cases h
    ·cases h; decide
set_option maxRecDepth 20000 in
theorem of286 (H:Has 286 E) {n:Int} (hn:n.natAbs ≤ 9223372036854775807):EvClosed E (.fn (.func 286) [] []) [.int .i64 n] = some (gtW (ofW n)):=by
 rw [EvClosed_eq H.c286 rfl (vs:=[.int .i64 n]) (by simp),EvFn_eq]
 have q1:=make301 (H.to 301) hn (den:=1) (by decide) (ten:=0) (by decide)
 have q3:=put297 (H.to 297) (r:=makeF n 1 0) (d:=d0) rfl (fun e he=>makeF_ne he)
 rw [ofW_put]
 obtain ⟨cs,e1,e2,e3,e4⟩:=gtW_shape (tg:=false) (r:=makeF n 1 0) (d:=d0) rfl
 rw [e1] at q3 ⊢
 have s0:=set_12 e2
 obtain ⟨F,e5,e6⟩:=gtF_cs (makeF n 1 0)
 rw [e5] at q1 q3
 rw [show gtD d0 = .agg [.int .i64 0,.int .i64 0,.int .i64 0,.int .i64 0,.int .i64 0,.int .i64 0,.int .i64 0,.bool true] from rfl] at q3
 have t3:cs.take 12 = cs:=List.take_of_length_le (by omega)
 simp [f286,start,EvCall_closed H.c301 rfl,EvCall_closed H.c297 rfl,q1,q3,s0,t3,e2,e3,e4,push_setk]
end Go.Pv
/- What functions of the packages symbol, slices, strings come to. Conditions: the functions' codes; theorems. -/
namespace Go.Pv
variable {E:Env} {j:Nat}
def hasP (s p:List UInt8):Bool:=decide (p.length ≤ s.length) && (s.take p.length == p)
theorem hasPrefix_eq (H:Has 75 E) (s p:List UInt8):EvClosed E (.fn (.func 75) [] []) [.str s,.str p] = some (.bool (hasP s p)):=by
 rw [EvClosed_eq H.c75 rfl (vs:=[.str s,.str p]) (by simp),EvFn_eq]
 by_cases h:p.length ≤ s.length <;> simp [f75,start,h,hasP]
def cutP (s p:List UInt8):List UInt8 × Bool:=if hasP s p then (s.drop p.length,true) else (s,false)
theorem hasP_le {s p:List UInt8} (h:hasP s p = true):p.length ≤ s.length:=by
 simp only [hasP,Bool.and_eq_true,decide_eq_true_eq] at h
 exact h.1
theorem cutPrefix1_eq (H:Has 61 E) (s p:List UInt8):EvClosed E (.fn (.func 61) [] []) [.str s,.str p] = some (.tuple [.str (cutP s p).1,.bool (cutP s p).2]):=by
 rw [EvClosed_eq H.c61 rfl (vs:=[.str s,.str p]) (by simp),EvFn_eq]
 cases h:hasP s p
 ·simp [f61,start,EvCall_closed H.c75 rfl,hasPrefix_eq (H.to 75),cutP,h]
 ·have:=hasP_le h
  simp [f61,start,EvCall_closed H.c75 rfl,hasPrefix_eq (H.to 75),cutP,h,this]
theorem cutPrefix_eq (H:Has 41 E) (s p:List UInt8):EvClosed E (.fn (.func 41) [] []) [.str s,.str p] = some (.tuple [.str (cutP s p).1,.bool (cutP s p).2]):=by
 rw [EvClosed_eq H.c41 rfl (vs:=[.str s,.str p]) (by simp),EvFn_eq]
 simp [f41,start,EvCall_closed H.c61 rfl,cutPrefix1_eq (H.to 61)]
structure AtomR where
 c1:List UInt8
 c2:List UInt8
 c3:List UInt8
 c4:List UInt8
 c5:List UInt8
 metric:Bool
 tag:Int
 base:Int
 num:Int
 den:Int
 ten:Int
 terms:List (Int × Int)
def termCs (t:Int × Int):List AV:=[.int .i64 t.1,.int .i64 t.2]
def termsV (o:Own) (l:List (Int × Int)):AV:=if l.isEmpty then .nils else .vs o l.length (l.flatMap termCs)
def acs (o:Own) (a:AtomR):List AV:=[.str a.c1,.str a.c2,.str a.c3,.str a.c4,.str a.c5,.bool a.metric,.int .i64 a.tag,.int .i64 a.base,.int .i64 a.num,.int .i64 a.den,.int .i64 a.ten,termsV o a.terms]
def AtomR.code (a:AtomR) (n:Nat):List UInt8:=match n with | 0=>a.c1 | 1=>a.c2 | 2=>a.c3 | 3=>a.c4 | _=>a.c5
theorem acs_len (o:Own) (a:AtomR):(acs o a).length = 12:=by simp [acs]
theorem termsV_cell (o:Own) (l:List (Int × Int)):(termsV o l).isCell = true:=by unfold termsV; split <;> rfl
theorem acs_all (o:Own) (a:AtomR):(acs o a).all AV.isCell = true:=by simp [acs,termsV_cell]
def OwnOk (o:Own):Prop:=o = .full∨o = .shared
theorem shut_vs {o:Own} (ho:OwnOk o) {n t len:Nat} {cs:List AV} (h:shutL n t cs = some cs):shut n t (.vs o len cs) = some (.vs o len cs):=by
 rcases ho with rfl | rfl <;> simp [shut,h]
theorem acs_shut {o:Own} (ho:OwnOk o) (a:AtomR):shutL 0 0 (acs o a) = some (acs o a):=by
 have ht:shut 0 0 (termsV o a.terms) = some (termsV o a.terms):=by
  unfold termsV
  split
  ·simp
  ·exact shut_vs ho (shutL_flat (fun t=>by simp [termCs]) _)
 simp [acs,ht]
structure PrefR where
 c1:List UInt8
 c2:List UInt8
 c3:List UInt8
 c4:List UInt8
 c5:List UInt8
 ten:Int
def PrefR.cells (a:PrefR):List AV:=[.str a.c1,.str a.c2,.str a.c3,.str a.c4,.str a.c5,.int .i64 a.ten]
def PrefR.code (a:PrefR) (n:Nat):List UInt8:=match n with | 0=>a.c1 | 1=>a.c2 | 2=>a.c3 | 3=>a.c4 | _=>a.c5
theorem PrefR.len (a:PrefR):a.cells.length = 6:=by simp [PrefR.cells]
theorem PrefR.take (a:PrefR):a.cells.take 6 = a.cells:=by simp [PrefR.cells]
theorem PrefR.shut (a:PrefR):shutL 0 0 a.cells = some a.cells:=by simp [PrefR.cells]
theorem PrefR.all (a:PrefR):a.cells.all AV.isCell = true:=by simp [PrefR.cells]
theorem atom1_eq (H:Has 60 E) (o:Own) (a:AtomR) {h:AHeap} {rb rc n:Nat} {A P:AV} {code:List UInt8} (hn:n < 5) (hb:h.bl rb = some (.cells [A,P,.int .i64 ((n:Int) + 1)])) (hc:h.bl rc = some (.cells [.str code])):
  EvCall E (.fn (.func 60) [] [.ref rb 0,.ref rc 0]) [.agg (acs o a)] h = some (.ret (.bool (a.code n == code)),h):=by
 rw [EvCall_reader H.c60 rfl,EvFn_eq]
 have:n = 0∨n = 1∨n = 2∨n = 3∨n = 4:=by omega
 rcases this with rfl | rfl | rfl | rfl | rfl <;> simp [f60,start,acs,AtomR.code,hb,hc,blk_ne hb,blk_ne hc,w64]
theorem indexFunc_loop {α:Type} {cells:α→List AV} {p:α→Bool} {f:AV} {h:AHeap} {own:Own} {L:List α} (hl:∀ a,(cells a).length = 12) (hlen:L.length < 9223372036854775807)
  (hp:∀ a ∈ L,EvCall E f [.agg (cells a)] h = some (.ret (.bool (p a)),h)):∀ (n i:Nat),i + n = L.length→∀ F,mask k59_0 F = s59_0 (.vs own L.length (L.flatMap cells)) f (.int .i64 L.length) (.int .i64 i) →
   EvCode E (.loop k59_0 l59_0) F h = some (if idxV p (L.drop i) = -1 then (.exit 0,x59_0,h) else (.ret,r59 (.int .i64 (i + idxV p (L.drop i))),h))
 | 0,i,hi,F,hF=>by
  have hi':i = L.length:=by omega
  subst hi'
  rw [EvCode_loop,hF]
  simp [l59_0,s59_0,x59_0,idxV]
 | n + 1,i,hi,F,hF=>by
  have hlt:i < L.length:=by omega
  rw [EvCode_loop,hF,List.drop_eq_getElem_cons hlt,idxV_cons]
  have hpx:=hp L[i] (List.getElem_mem hlt)
  have ih:=indexFunc_loop (own:=own) hl hlen hp n (i + 1) (by omega)
  generalize EvCode E (.loop k59_0 l59_0) = lp at ih ⊢
  cases hpa:p L[i]
  ·rw [hpa] at hpx
   simp [l59_0,s59_0,hlt,fm_len hl,lt_at hlt,le_at hlt,fm_el hl hlt,hpx,w64 (n:=(i:Int) + 1)]
   rw [ih _ (by simp [s59_0])]
   rcases idxV_range p (L.drop (i + 1)) with hq | ⟨k,_,hq⟩
   ·simp [hq]
   ·rw [hq]
    rw [if_neg (by omega),if_neg (by omega),if_neg (by omega)]
    simp [r59]
    omega
  ·rw [hpa] at hpx
   simp [l59_0,s59_0,hlt,fm_len hl,lt_at hlt,le_at hlt,fm_el hl hlt,hpx,r59]
theorem indexFunc_eq (H:Has 59 E) {α:Type} {cells:α→List AV} {p:α→Bool} {f:AV} {h:AHeap} {L:List α} (hl:∀ a,(cells a).length = 12) (hlen:L.length < 9223372036854775807) {own:Own}
  (hp:∀ a ∈ L,EvCall E f [.agg (cells a)] h.still = some (.ret (.bool (p a)),h.still)):EvCall E (.fn (.func 59) [] []) [.vs own L.length (L.flatMap cells),f] h = some (.ret (.int .i64 (idxV p L)),h):=by
 rw [EvCall_reader H.c59 rfl,EvFn_eq]
 have hk:=indexFunc_loop (own:=own) hl hlen hp L.length 0 (by omega)
 simp [f59,start]
 rw [hk _ (by simp [s59_0])]
 by_cases hq:idxV p L = -1 <;> simp [hq,x59_0,r59]
end Go.Pv
/- The table of units and of prefixes, by program. Conditions: none; definitions. -/
namespace Go.Pv
def atomsT:List AtomR:=[
 ⟨[109],[77],[109],[77],[109],true,0,0,1,1,0,[]⟩,
 ⟨[115],[83],[115],[83],[115],true,0,1,1,1,0,[]⟩,
 ⟨[103],[71],[103],[71],[103],true,0,2,1,1,0,[]⟩,
 ⟨[114,97,100],[82,65,68],[114,97,100],[82,65,68],[114,97,100],true,0,3,1,1,0,[]⟩,
 ⟨[75],[75],[75],[75],[75],true,0,4,1,1,0,[]⟩,
 ⟨[67],[67],[67],[67],[67],true,0,5,1,1,0,[]⟩,
 ⟨[99,100],[67,68],[99,100],[67,68],[99,100],true,0,6,1,1,0,[]⟩,
 ⟨[37],[37],[37],[],[37],false,0,-1,1,1,-2,[]⟩,
 ⟨[109,111,108],[77,79,76],[109,111,108],[77,79,76],[109,111,108],true,0,-1,602214076,1,15,[]⟩,
 ⟨[115,114],[83,82],[115,114],[83,82],[115,114],true,0,-1,1,1,0,[(3,2)]⟩,
 ⟨[72,122],[72,90],[72,122],[72,90],[72,122],true,0,-1,1,1,0,[(1,-1)]⟩,
 ⟨[78],[78],[78],[78],[78],true,0,-1,1,1,3,[(2,1),(0,1),(1,-2)]⟩,
 ⟨[80,97],[80,65,76],[80,97],[80,65],[80,97],true,0,-1,1,1,0,[(11,1),(0,-2)]⟩,
 ⟨[74],[74],[74],[74],[74],true,0,-1,1,1,0,[(11,1),(0,1)]⟩,
 ⟨[87],[87],[87],[87],[87],true,0,-1,1,1,0,[(13,1),(1,-1)]⟩,
 ⟨[65],[65],[65],[65],[65],true,0,-1,1,1,0,[(5,1),(1,-1)]⟩,
 ⟨[86],[86],[86],[86],[86],true,0,-1,1,1,0,[(13,1),(5,-1)]⟩,
 ⟨[70],[70],[70],[70],[70],true,0,-1,1,1,0,[(5,1),(16,-1)]⟩,
 ⟨[79,104,109],[79,72,77],[79,104,109],[79,72,77],[111,104,109],true,0,-1,1,1,0,[(16,1),(15,-1)]⟩,
 ⟨[83],[83,73,69],[83],[83,73,69],[83],true,0,-1,1,1,0,[(18,-1)]⟩,
 ⟨[87,98],[87,66],[87,98],[87,66],[87,98],true,0,-1,1,1,0,[(16,1),(1,1)]⟩,
 ⟨[67,101,108],[67,69,76],[91,111,67,93],[67,69,76],[],true,1,-1,1,1,0,[(4,1)]⟩,
 ⟨[84],[84],[84],[84],[84],true,0,-1,1,1,0,[(20,1),(0,-2)]⟩,
 ⟨[72],[72],[72],[72],[72],true,0,-1,1,1,0,[(20,1),(15,-1)]⟩,
 ⟨[108,109],[76,77],[108,109],[76,77],[108,109],true,0,-1,1,1,0,[(6,1),(9,1)]⟩,
 ⟨[108,120],[76,88],[108,120],[76,88],[108,120],true,0,-1,1,1,0,[(24,1),(0,-2)]⟩,
 ⟨[66,113],[66,81],[66,113],[66,81],[66,113],true,0,-1,1,1,0,[(1,-1)]⟩,
 ⟨[71,121],[71,89],[71,121],[71,89],[71,121],true,0,-1,1,1,-3,[(13,1),(2,-1)]⟩,
 ⟨[83,118],[83,86],[83,118],[83,86],[83,118],true,0,-1,1,1,-3,[(13,1),(2,-1)]⟩,
 ⟨[108],[76],[76],[76],[108],true,0,-1,1,1,-3,[(0,3)]⟩,
 ⟨[97,114],[65,82],[97],[65,82,69],[97],true,0,-1,1,1,2,[(0,2)]⟩,
 ⟨[109,105,110],[77,73,78],[109,105,110],[77,73,78],[109,105,110],false,0,-1,6,1,1,[(1,1)]⟩,
 ⟨[104],[72,82],[104],[72,82],[104,114],false,0,-1,36,1,2,[(1,1)]⟩,
 ⟨[100],[68],[100],[68],[100],false,0,-1,24,1,0,[(32,1)]⟩,
 ⟨[97],[65,78,78],[121,114],[65,78,78],[121,114],false,0,-1,36525,1,-2,[(33,1)]⟩,
 ⟨[116],[84,78,69],[116],[84,78,69],[116],true,0,-1,1,1,6,[(2,1)]⟩,
 ⟨[98,97,114],[66,65,82],[98,97,114],[66,65,82],[98,97,114],true,0,-1,1,1,5,[(12,1)]⟩,
 ⟨[91,105,110,95,105,93],[91,73,78,95,73,93],[105,110],[73,78],[105,110],false,0,-1,254,1,-4,[(0,1)]⟩,
 ⟨[91,108,98,95,97,118,93],[91,76,66,95,65,86,93],[108,98],[76,66],[108,98],false,0,-1,45359237,1,-5,[(2,1)]⟩,
 ⟨[91,112,72,93],[91,80,72,93],[112,72],[],[],false,2,-1,1,1,0,[(8,1),(29,-1)]⟩,
 ⟨[66],[66],[66],[],[],true,3,-1,1,1,0,[]⟩,
 ⟨[91,105,85,93],[91,73,85,93],[73,85],[],[73,85],true,0,-1,1,1,0,[]⟩,
 ⟨[101,113],[69,81],[101,113],[69,81],[101,113],true,0,-1,1,1,0,[(8,1)]⟩,
 ⟨[111,115,109],[79,83,77],[111,115,109],[79,83,77],[111,115,109],true,0,-1,1,1,0,[(8,1)]⟩,
 ⟨[107,97,116],[75,65,84],[107,97,116],[75,65,84],[107,97,116],true,0,-1,1,1,0,[(8,1),(1,-1)]⟩,
 ⟨[117],[65,77,85],[117],[85],[117],true,0,-1,16605390666,1,-34,[(2,1)]⟩,
 ⟨[101,86],[69,86],[101,86],[69,86],[101,86],true,0,-1,1602176634,1,-28,[(13,1)]⟩,
 ⟨[91,100,114,95,97,118,93],[91,68,82,95,65,86,93],[100,114],[],[100,114],false,0,-1,1,256,0,[(38,1)]⟩]
def prefsT:List PrefR:=[
 ⟨[89],[89,65],[89],[],[89],24⟩,
 ⟨[90],[90,65],[90],[],[90],21⟩,
 ⟨[69],[69,88],[69],[69],[69],18⟩,
 ⟨[80],[80,84],[80],[80,69],[80],15⟩,
 ⟨[84],[84,82],[84],[84],[84],12⟩,
 ⟨[71],[71,65],[71],[71],[71],9⟩,
 ⟨[77],[77,65],[77],[77,65],[77],6⟩,
 ⟨[107],[75],[107],[75],[107],3⟩,
 ⟨[104],[72],[104],[72],[104],2⟩,
 ⟨[100,97],[68,65],[100,97],[68,65],[100,97],1⟩,
 ⟨[100],[68],[100],[68],[100],-1⟩,
 ⟨[99],[67],[99],[67],[99],-2⟩,
 ⟨[109],[77],[109],[77],[109],-3⟩,
 ⟨[117],[85],[117],[85],[117],-6⟩,
 ⟨[110],[78],[110],[78],[110],-9⟩,
 ⟨[112],[80],[112],[80],[112],-12⟩,
 ⟨[102],[70],[102],[70],[102],-15⟩,
 ⟨[97],[65],[97],[65],[97],-18⟩,
 ⟨[122],[90,79],[122],[],[122],-21⟩,
 ⟨[121],[89,79],[121],[],[121],-24⟩]
end Go.Pv
/- A slice that is appended to. Conditions: none; lemmas. -/
namespace Go.Pv
def AHeap.toks_ (h:AHeap) (ts:List Nat):AHeap:={ h with toks:=ts }
theorem bl_toks (h:AHeap) (ts:List Nat) (i:Nat):(h.toks_ ts).bl i = h.bl i:=rfl
theorem blks_toks (h:AHeap) (ts:List Nat):(h.toks_ ts).blks = h.blks:=rfl
theorem len_toks (h:AHeap) (ts:List Nat):(h.toks_ ts).blks.length = h.blks.length:=rfl
theorem ro_toks (h:AHeap) (ts:List Nat):(h.toks_ ts).ro = h.ro:=rfl
theorem rot_toks (h:AHeap) (ts:List Nat):(h.toks_ ts).rot = h.rot:=rfl
theorem tk_toks (h:AHeap) (ts:List Nat) (i:Nat):(h.toks_ ts).tk i = ts[i]?:=rfl
theorem toks_toks (h:AHeap) (ts us:List Nat):(h.toks_ ts).toks_ us = h.toks_ us:=rfl
def Grow (h:AHeap) (sz:Nat) (cs:List AV) (len:Nat) (v:AV):Prop:=
 (v = .nils∧cs = []∧len = 0)∨∃ k,v = .vs (.tok k sz) len cs∧cs.length = len * sz∧h.tk k = some cs.length∧h.rot ≤ k∧0 < len
theorem grow_nil (h:AHeap) (sz:Nat):Grow h sz [] 0 .nils:=.inl ⟨rfl,rfl,rfl⟩
theorem grow_app {h:AHeap} {sz bytes:Nat} {cs:List AV} {len m:Nat} {v:AV} {xs:List AV} (g:Grow h sz cs len v) (hr:h.rot ≤ h.toks.length) (hb:(len + m) * bytes ≤ 140737488355328) (hm:0 < m) (hsz:0 < sz) (hx:xs.length = m * sz) (hc:xs.all AV.isCell = true):
  ∃ ts v',appendA sz bytes h (den v) (.vs .full m xs) = some (v',h.toks_ ts)∧Grow (h.toks_ ts) sz (cs++xs) (len + m) v'∧h.toks.length ≤ ts.length:=by
 have hm0:¬ m = 0:=by omega
 rcases g with ⟨rfl,rfl,rfl⟩ | ⟨k,rfl,h1,h2,h3,h4⟩
 ·simp only [Nat.zero_add] at hb
  refine ⟨h.toks++[0 + xs.length],.vs (.tok h.toks.length sz) (0 + m) ([]++xs),?_,.inr ⟨_,rfl,?_,?_,?_,by omega⟩,by simp⟩
  ·simp [appendA,den,sliceCells,hx,hb,hsz,hm0,AHeap.toks_]
   exact List.all_eq_true.1 hc
  ·simpa using hx
  ·simp [tk_toks]
  ·exact hr
 ·have hkl:k < h.toks.length:=(List.getElem?_eq_some_iff.1 h2).1
  have hcs:den (.vs (.tok k sz) len cs) = .vs (.tok k sz) len cs:=rfl
  refine ⟨h.toks.set k (cs.length + xs.length),.vs (.tok k sz) (len + m) (cs++xs),?_,.inr ⟨_,rfl,?_,?_,h3,by omega⟩,by simp⟩
  ·rw [hcs]
   rw [h1] at h2
   simp [appendA,sliceCells,hx,hb,hsz,hm0,AHeap.toks_,h1,h2,h3]
   exact List.all_eq_true.1 hc
  ·simp [h1,hx,Nat.add_mul]
  ·simp [tk_toks,hkl]
theorem Grow.len {h:AHeap} {sz:Nat} {cs:List AV} {len:Nat} {v:AV} (g:Grow h sz cs len v):cs.length = len * sz:=by
 rcases g with ⟨_,rfl,rfl⟩ | ⟨k,_,h1,_⟩
 ·simp
 ·exact h1
theorem Grow.of_heap {h h':AHeap} {sz:Nat} {cs:List AV} {len:Nat} {v:AV} (g:Grow h sz cs len v) (ht:h'.toks = h.toks) (hr:h'.rot = h.rot):Grow h' sz cs len v:=by
 rcases g with g | ⟨k,g1,g2,g3,g4,g5⟩
 ·exact .inl g
 ·exact .inr ⟨k,g1,g2,by show h'.toks[k]? = _; rw [ht]; exact g3,by rw [hr]; exact g4,g5⟩
theorem Grow.cell {h:AHeap} {sz:Nat} {cs:List AV} {len:Nat} {v:AV} (g:Grow h sz cs len v):v.isCell = true:=by
 rcases g with ⟨rfl,_⟩ | ⟨k,rfl,_⟩ <;> simp
theorem Grow.cells {h:AHeap} {sz:Nat} {cs:List AV} {len:Nat} {v:AV} (g:Grow h sz cs len v):v.cells? = some [v]:=by
 rcases g with ⟨rfl,_⟩ | ⟨k,rfl,_⟩ <;> simp
end Go.Pv
