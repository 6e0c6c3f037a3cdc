/- A part of the proof: functions of the program in the evaluator's code, and what they come to. Conditions: none; definitions and theorems that the statement's proof uses. -/
import Derived.Test.YteiaohbhlapklaaGreatDoorSettPcStyle3
import Derived.Test.YteiaohbhlapklaaGreatDoorSettPcLib
/- Tokens: what the reference's functions of chapter 8 come to. Conditions: the functions' codes; theorems. -/
namespace Go.Pv
variable {E:Env}
structure Tok where
 kind:Int
 pos:Int
 text:List UInt8
 n:Int
 deriving DecidableEq
def Tok.cs (t:Tok):List AV:=[.int .i64 t.kind,.int .i64 t.pos,.str t.text,.int .i64 t.n]
theorem Tok.len (t:Tok):t.cs.length = 4:=by simp [Tok.cs]
theorem Tok.take (t:Tok):t.cs.take 4 = t.cs:=by simp [Tok.cs]
theorem Tok.all (t:Tok):t.cs.all AV.isCell = true:=by simp [Tok.cs]
theorem Tok.shut {n k:Nat} (t:Tok):shutL n k t.cs = some t.cs:=by simp [Tok.cs]
def noteS (x:Int) (r:List UInt8):Option (List UInt8):=
 let e:=r.findIdx (· == (sty x).cls)
 if e < r.length && plain x (r.take e) then some (r.take e) else none
def nextS (x:Int):List UInt8→Option (Int × List UInt8 × Int × Nat)
 | []=>none
 | c :: r=>
  if kind x c == 0 || kind x c == 10 then none
  else if kind x c == 1 then some (1,raise x ((c :: r).take (runL x 1 (c :: r))),0,runL x 1 (c :: r))
  else if kind x c == 2 then (numOf ((c :: r).take (runL x 2 (c :: r)))).map fun (v:Nat)=>(2,(c :: r).take (runL x 2 (c :: r)),(v:Int),runL x 2 (c :: r))
  else if kind x c == 9 then (noteS x r).map fun t=>(9,t,0,t.length + 2)
  else some (kind x c,[c],0,1)
def gotCs (at_:Int):Option (Int × List UInt8 × Int × Nat)→List AV
 | none=>[.int .i64 0,.int .i64 0,.str [],.int .i64 0,.int .i64 0]
 | some (k,t,n,l)=>[.int .i64 k,.int .i64 at_,.str t,.int .i64 n,.int .i64 l]
theorem note_loop (H:Has 197 E) {x:Int} {h:AHeap} {v:AV} (ahead:List UInt8) (c:UInt8):∀ (rest pre:List UInt8),ahead.length + 1 + pre.length + rest.length < 1000000→∀ F,mask k197_0 F = s197_0 (.int .i64 x) (.str (ahead++c :: (pre++rest))) (.int .i64 ahead.length) v (.int .i64 (ahead.length + 1 + pre.length:Nat)) →
  EvCode E (.loop k197_0 l197_0) F h = some (.exit 0,x197_0 (.int .i64 x) (.str (ahead++c :: (pre++rest))) (.int .i64 ahead.length) v (.int .i64 (ahead.length + 1 + pre.length + rest.findIdx (· == (sty x).cls):Nat)),h)
 | [],pre,hlen,F,hF=>by
  rw [EvCode_loop,hF]
  have hlt:¬ ((ahead.length:Int) + 1 + pre.length < (ahead.length:Int) + ((pre.length:Int) + 1)):=by omega
  simp [l197_0,s197_0,x197_0,hlt]
 | d :: rest,pre,hlen,F,hF=>by
  have ih:=note_loop H (x:=x) (h:=h) (v:=v) ahead c rest (pre++[d]) (by simp at hlen ⊢; omega)
  have ho:=refOf_eq (H.to 19) x
  simp only [Sty.cs] at ho
  rw [EvCode_loop,hF]
  generalize EvCode E (.loop k197_0 l197_0) = lp at ih ⊢
  simp only [List.length_cons] at hlen
  have hlt:(ahead.length:Int) + 1 + pre.length < (ahead.length:Int) + ((pre.length:Int) + ((rest.length:Int) + 1) + 1):=by omega
  have hnn:(0:Int) ≤ (ahead.length:Int) + 1 + (pre.length:Int):=by omega
  have hn:((ahead.length:Int) + 1 + (pre.length:Int)).toNat = ahead.length + 1 + pre.length:=by omega
  have hget:(ahead++c :: (pre++d :: rest))[ahead.length + 1 + pre.length]? = some d:=by
   rw [show ahead++c :: (pre++d :: rest) = (ahead++[c]++pre)++d :: rest by simp,List.getElem?_append_right (by simp; omega)]
   have hz:ahead.length + 1 + pre.length - (ahead++[c]++pre).length = 0:=by simp; omega
   rw [hz]
   rfl
  have hu:((d.toNat:Int) != ((sty x).cls.toNat:Int)) = !(d == (sty x).cls):=by
   rw [← u8i]
   rfl
  cases hk:(d == (sty x).cls)
  ·rw [hk] at hu
   simp [l197_0,s197_0,hlt,hnn,hn,hget,ho,hu,whole,w64 (n:=(ahead.length:Int) + 1 + pre.length + 1)]
   have:=ih
   simp only [List.append_assoc,List.cons_append,List.nil_append] at this
   rw [this _ (by simp [s197_0]; omega)]
   simp [x197_0,List.findIdx_cons,hk]
   omega
  ·rw [hk] at hu
   simp [l197_0,s197_0,hlt,hnn,hn,hget,ho,hu,whole,x197_0,List.findIdx_cons,hk]
theorem note_eq (H:Has 197 E) (x:Int) (ahead:List UInt8) (c:UInt8) (r:List UInt8) (hs:ahead.length + r.length < 900000):EvClosed E (.fn (.func 197) [] []) [.int .i64 x,.str (ahead++c :: r),.int .i64 ahead.length] =
  some (.agg (gotCs ahead.length ((noteS x r).map fun t=>(9,t,0,t.length + 2)))):=by
 rw [EvClosed_eq H.c197 rfl (vs:=[.int .i64 x,.str (ahead++c :: r),.int .i64 ahead.length]) (by simp),EvFn_eq]
 have hl:=fun h v=>note_loop (E:=E) H (x:=x) (h:=h) (v:=v) ahead c r [] (by simp; omega)
 simp only [List.nil_append,List.length_nil,Nat.add_zero] at hl
 have hle:r.findIdx (· == (sty x).cls) ≤ r.length:=List.findIdx_le_length
 obtain ⟨e,he⟩:∃ e,r.findIdx (· == (sty x).cls) = e:=⟨_,rfl⟩
 rw [he] at hl hle
 have hp:=refPlain_eq (H.to 172) x (r.take e) (by simp; omega)
 simp [f197,start,w64 (n:=(ahead.length:Int) + 1)]
 rw [hl _ (.ref 0 0) _ (by simp [s197_0])]
 simp only [noteS,he]
 by_cases hlt:e < r.length
 ·have h1:¬ ((ahead.length:Int) + ((r.length:Int) + 1) ≤ (ahead.length:Int) + 1 + e):=by omega
  have hsl:((ahead++c :: r).take (ahead.length + 1 + e)).drop (ahead.length + 1) = r.take e:=by
   rw [show ahead++c :: r = (ahead++[c])++r by simp,show ahead.length + 1 + e = (ahead++[c]).length + e by simp,List.take_length_add_append,show ahead.length + 1 = (ahead++[c]).length by simp,List.drop_left]
  have h2:(0:Int) ≤ (ahead.length:Int) + 1 + e∧(ahead.length:Int) + 1 + e ≤ (ahead.length:Int) + ((r.length:Int) + 1):=by omega
  have h3:(0:Int) ≤ (ahead.length:Int) + 1:=by omega
  have h4:((ahead.length:Int) + 1 + e).toNat = ahead.length + 1 + e:=by omega
  have h5:((ahead.length:Int) + 1).toNat = ahead.length + 1:=by omega
  have h6:(ahead.length:Int) + 1 ≤ (ahead.length:Int) + 1 + (e:Int):=by omega
  have w1:IntKind.i64.wrap ((ahead.length:Int) + 1 + e + 1) = (ahead.length:Int) + 1 + e + 1:=w64
  have w2:IntKind.i64.wrap ((ahead.length:Int) + 1 + e + 1 - ahead.length) = (e:Int) + 2:=by rw [w64]; omega
  cases hpl:plain x (r.take e)
  ·rw [hpl] at hp
   simp [x197_0,h1,h2,h3,h4,h5,h6,hsl,w64 (n:=(ahead.length:Int) + 1),EvCall_closed H.c172 rfl,hp,hlt,gotCs]
  ·rw [hpl] at hp
   simp [x197_0,h1,h2,h3,h4,h5,h6,hsl,w64 (n:=(ahead.length:Int) + 1),EvCall_closed H.c172 rfl,hp,hlt,gotCs,w1,w2]
   omega
 ·have h1:(ahead.length:Int) + ((r.length:Int) + 1) ≤ (ahead.length:Int) + 1 + e:=by omega
  simp [x197_0,h1,hlt,gotCs]
end Go.Pv
/- Tokens: what the reference's Next comes to. Conditions: the functions' codes; theorems. -/
namespace Go.Pv
variable {E:Env}
theorem kind_dig {x:Int} {c:UInt8} (h:(kind x c == 2) = true):isDig c.toNat = true:=by
 unfold kind kindS at h
 cases hd:isDig c.toNat
 ·exfalso
  rw [hd] at h
  simp only [Bool.false_eq_true,if_false] at h
  have h:=eq_of_beq h
  revert h
  (repeat' split) <;> (intro h; omega)
 ·rfl
theorem run_digits (x:Int):∀ (s:List UInt8),digits (s.take (runL x 2 s))
 | []=>fun c hc=>by simp at hc
 | c :: s=>by
  simp only [runL]
  split
  ·rename_i h
   intro d hd
   rw [List.take_succ_cons,List.mem_cons] at hd
   rcases hd with rfl | hd
   ·exact kind_dig h
   ·exact run_digits x s d hd
  ·intro d hd
   simp at hd
theorem cut_at (ahead s:List UInt8) (k:Nat):((ahead++s).take (ahead.length + k)).drop ahead.length = s.take k:=by
 rw [List.take_length_add_append,List.drop_left]
theorem next_eq (H:Has 176 E) (x:Int) (ahead:List UInt8) (c:UInt8) (r:List UInt8) (hs:ahead.length + r.length < 900000):
  EvClosed E (.fn (.func 176) [] []) [.int .i64 x,.str (ahead++c :: r),.int .i64 ahead.length] = some (.agg (gotCs ahead.length (nextS x (c :: r)))):=by
 rw [EvClosed_eq H.c176 rfl (vs:=[.int .i64 x,.str (ahead++c :: r),.int .i64 ahead.length]) (by simp),EvFn_eq]
 have hget:(ahead++c :: r)[ahead.length]? = some c:=by simp
 have hk:∀ h,EvCall E (.fn (.func 193) [] []) [.int .i64 x,.int .u8 c.toNat] h = some (.ret (.int .i64 (kind x c)),h):=fun h=>refKindC_eq (H.to 193) x c h
 have hkc:EvClosed E (.fn (.func 193) [] []) [.int .i64 x,.int .u8 c.toNat] = some (.int .i64 (kind x c)):=refKind_eq (H.to 193) x c
 have hle1:=runL_le x 1 (c :: r)
 have hle2:=runL_le x 2 (c :: r)
 have hg1:=goes_eq (H.to 194) x 1 ahead (c :: r) (by simp; omega)
 have hg2:=goes_eq (H.to 194) x 2 ahead (c :: r) (by simp; omega)
 have hr:=refRaise_eq (H.to 195) x ((c :: r).take (runL x 1 (c :: r))) (by simp; omega)
 have hn:=number_eq (H.to 196) ((c :: r).take (runL x 2 (c :: r))) (run_digits x _) (by simp; omega)
 have ho:=note_eq (H.to 197) x ahead c r (by omega)
 have hc1:=cut_at ahead (c :: r) (runL x 1 (c :: r))
 have hc2:=cut_at ahead (c :: r) (runL x 2 (c :: r))
 have hc3:=cut_at ahead (c :: r) 1
 simp only [List.length_cons] at hle1 hle2
 simp only [nextS]
 generalize runL x 1 (c :: r) = k1 at hle1 hg1 hr hc1 ⊢
 generalize runL x 2 (c :: r) = k2 at hle2 hg2 hn hc2 ⊢
 have w0:IntKind.i64.wrap ((ahead.length:Int) + 1) = (ahead.length:Int) + 1:=w64
 have w1:IntKind.i64.wrap ((ahead.length:Int) + k1) = (ahead.length:Int) + k1:=w64
 have w2:IntKind.i64.wrap ((ahead.length:Int) + k2) = (ahead.length:Int) + k2:=w64
 have a1:(0:Int) ≤ (ahead.length:Int) + k1∧(ahead.length:Int) + k1 ≤ (ahead.length:Int) + ((r.length:Int) + 1):=by omega
 have a2:(0:Int) ≤ (ahead.length:Int) + k2∧(ahead.length:Int) + k2 ≤ (ahead.length:Int) + ((r.length:Int) + 1):=by omega
 have a3:(0:Int) ≤ (ahead.length:Int) + 1∧(ahead.length:Int) + 1 ≤ (ahead.length:Int) + ((r.length:Int) + 1):=by omega
 have t1:((ahead.length:Int) + k1).toNat = ahead.length + k1:=by omega
 have t2:((ahead.length:Int) + k2).toNat = ahead.length + k2:=by omega
 have t3:((ahead.length:Int) + 1).toNat = ahead.length + 1:=by omega
 have l1:(ahead.length:Int) ≤ (ahead.length:Int) + k1:=by omega
 have l2:(ahead.length:Int) ≤ (ahead.length:Int) + k2:=by omega
 have l3:(ahead.length:Int) ≤ (ahead.length:Int) + 1:=by omega
 cases h0:(kind x c == 0)
 ·cases h10:(kind x c == 10)
  ·cases h1:(kind x c == 1)
   ·cases h2:(kind x c == 2)
    ·cases h9:(kind x c == 9)
     ·simp [f176,start,hk,h0,h10,h1,h2,h9,hkc,w0,a3,t3,l3,hc3,gotCs]
     ·simp [f176,start,hk,h0,h10,h1,h2,h9,EvCall_closed H.c197 rfl,ho]
      cases (noteS x r) <;> simp [gotCs]
    ·simp [f176,start,hk,h0,h10,h1,h2,EvCall_closed H.c194 rfl,EvCall_closed H.c196 rfl,hg2,hn,w2,a2,t2,l2,hc2,push_setk]
     cases (numOf ((c :: r).take k2)) <;> simp [gotCs]
   ·simp [f176,start,hk,h0,h10,h1,EvCall_closed H.c194 rfl,EvCall_closed H.c195 rfl,hg1,hr,w1,a1,t1,l1,hc1,gotCs]
  ·simp [f176,start,hk,h0,h10,gotCs]
 ·simp [f176,start,hk,h0,gotCs]
end Go.Pv
/- A slice that is appended to. Conditions: none; lemmas. -/
namespace Go.Pv
def AHeap.toks_ (h:AHeap) (ts:List Nat):AHeap:={ h with toks:=ts }
theorem bl_toks (h:AHeap) (ts:List Nat) (i:Nat):(h.toks_ ts).bl i = h.bl i:=rfl
theorem len_toks (h:AHeap) (ts:List Nat):(h.toks_ ts).blks.length = h.blks.length:=rfl
theorem ro_toks (h:AHeap) (ts:List Nat):(h.toks_ ts).ro = h.ro:=rfl
theorem tk_toks (h:AHeap) (ts:List Nat) (i:Nat):(h.toks_ ts).tk i = ts[i]?:=rfl
theorem toks_self (h:AHeap):h.toks_ h.toks = h:=rfl
def Grow (h:AHeap) (sz:Nat) (cs:List AV) (len:Nat) (v:AV):Prop:=
 (v = .nils∧cs = []∧len = 0)∨∃ k,v = .vs (.tok k sz) len cs∧cs.length = len * sz∧h.tk k = some cs.length∧h.rot ≤ k∧0 < len
theorem grow_nil (h:AHeap) (sz:Nat):Grow h sz [] 0 .nils:=.inl ⟨rfl,rfl,rfl⟩
theorem grow_app {h:AHeap} {sz bytes:Nat} {cs:List AV} {len m:Nat} {v:AV} {xs:List AV} (g:Grow h sz cs len v) (hr:h.rot ≤ h.toks.length) (hb:(len + m) * bytes ≤ 140737488355328) (hm:0 < m) (hsz:0 < sz) (hx:xs.length = m * sz) (hc:xs.all AV.isCell = true):
  ∃ ts v',appendA sz bytes h (den v) (.vs .full m xs) = some (v',h.toks_ ts)∧Grow (h.toks_ ts) sz (cs++xs) (len + m) v'∧h.toks.length ≤ ts.length:=by
 have hm0:¬ m = 0:=by omega
 rcases g with ⟨rfl,rfl,rfl⟩ | ⟨k,rfl,h1,h2,h3,h4⟩
 ·simp only [Nat.zero_add] at hb
  refine ⟨h.toks++[0 + xs.length],.vs (.tok h.toks.length sz) (0 + m) ([]++xs),?_,.inr ⟨_,rfl,?_,?_,?_,by omega⟩,by simp⟩
  ·simp [appendA,den,sliceCells,hx,hb,hsz,hm0,AHeap.toks_]
   exact List.all_eq_true.1 hc
  ·simpa using hx
  ·simp [tk_toks]
  ·exact hr
 ·have hkl:k < h.toks.length:=(List.getElem?_eq_some_iff.1 h2).1
  have hcs:den (.vs (.tok k sz) len cs) = .vs (.tok k sz) len cs:=rfl
  refine ⟨h.toks.set k (cs.length + xs.length),.vs (.tok k sz) (len + m) (cs++xs),?_,.inr ⟨_,rfl,?_,?_,h3,by omega⟩,by simp⟩
  ·rw [hcs]
   rw [h1] at h2
   simp [appendA,sliceCells,hx,hb,hsz,hm0,AHeap.toks_,h1,h2,h3]
   exact List.all_eq_true.1 hc
  ·simp [h1,hx,Nat.add_mul]
  ·simp [tk_toks,hkl]
theorem Grow.len {h:AHeap} {sz:Nat} {cs:List AV} {len:Nat} {v:AV} (g:Grow h sz cs len v):cs.length = len * sz:=by
 rcases g with ⟨_,rfl,rfl⟩ | ⟨k,_,h1,_⟩
 ·simp
 ·exact h1
theorem Grow.of_heap {h h':AHeap} {sz:Nat} {cs:List AV} {len:Nat} {v:AV} (g:Grow h sz cs len v) (ht:h'.toks = h.toks) (hr:h'.rot = h.rot):Grow h' sz cs len v:=by
 rcases g with g | ⟨k,g1,g2,g3,g4,g5⟩
 ·exact .inl g
 ·exact .inr ⟨k,g1,g2,by show h'.toks[k]? = _; rw [ht]; exact g3,by rw [hr]; exact g4,g5⟩
theorem Grow.cell {h:AHeap} {sz:Nat} {cs:List AV} {len:Nat} {v:AV} (g:Grow h sz cs len v):v.isCell = true:=by
 rcases g with ⟨rfl,_⟩ | ⟨k,rfl,_⟩ <;> simp
theorem Grow.cells {h:AHeap} {sz:Nat} {cs:List AV} {len:Nat} {v:AV} (g:Grow h sz cs len v):v.cells? = some [v]:=by
 rcases g with ⟨rfl,_⟩ | ⟨k,rfl,_⟩ <;> simp
theorem set_set (h:AHeap) (b:Nat) (x y:ABlk):(h.setBlk b x).setBlk b y = h.setBlk b y:=by simp [AHeap.setBlk]
end Go.Pv
/- Tokens: what the reference's Each comes to. Conditions: the functions' codes; theorems. -/
namespace Go.Pv
variable {E:Env}
def lexF (x:Int):Nat→List UInt8→Nat→List Tok × Nat
 | 0,_,p=>([],p)
 | f + 1,s,p=>
  match nextS x s with
  | none=>([],p)
  | some (k,t,n,l)=>(⟨k,p,t,n⟩ :: (lexF x f (s.drop l) (p + l)).1,(lexF x f (s.drop l) (p + l)).2)
theorem next_len {x:Int} {s:List UInt8} {k:Int} {t:List UInt8} {n:Int} {l:Nat} (h:nextS x s = some (k,t,n,l)):1 ≤ l∧l ≤ s.length:=by
 cases s with
 | nil=>cases h
 | cons c r=>
  simp only [nextS] at h
  have r1:=runL_le x 1 (c :: r)
  have r2:=runL_le x 2 (c :: r)
  split at h
  ·cases h
  ·split at h
   ·rename_i hk
    cases h
    refine ⟨?_,r1⟩
    simp only [runL,hk,if_true]
    omega
   ·split at h
    ·rename_i hk
     cases hn:numOf ((c :: r).take (runL x 2 (c :: r))) with
     | none=>rw [hn] at h; cases h
     | some v=>
      rw [hn] at h
      cases h
      refine ⟨?_,r2⟩
      simp only [runL,hk,if_true]
      omega
    ·split at h
     ·cases hn:noteS x r with
      | none=>rw [hn] at h; cases h
      | some v=>
       rw [hn] at h
       cases h
       unfold noteS at hn
       simp only at hn
       split at hn
       ·rename_i hq
        simp only [Bool.and_eq_true,decide_eq_true_eq] at hq
        cases hn
        simp
        omega
       ·cases hn
     ·cases h
      simp
theorem each164_loop (H:Has 164 E) (x:Int) {b0 b1:Nat} (hbb:¬ b0 = b1):∀ (f:Nat) (s ahead:List UInt8),s.length ≤ f→ahead.length + s.length < 900000→∀ (h:AHeap) (done:List Tok) (v y z:AV),
    h.bl b1 = some (.cells [v,.int .i64 ahead.length])→h.bl b0 = some (.cells [y,z])→Grow h 4 (done.flatMap Tok.cs) done.length v→h.rot ≤ h.toks.length→h.ro = 0→done.length ≤ ahead.length →
    ∃ h' v',Grow h' 4 ((done++(lexF x f s ahead.length).1).flatMap Tok.cs) (done++(lexF x f s ahead.length).1).length v'∧(h'.ro = 0∧h'.rot ≤ h'.toks.length∧∀ b,b ≠ b0→b ≠ b1→b < h.blks.length→h'.bl b = h.bl b) ∧
      (((∀ F,mask k164_0 F = s164_0 (.int .i64 x) (.str (ahead++s)) (.ref b0 0) (.ref b1 0)→EvCode E (.loop k164_0 l164_0) F h = some (.exit 0,x164_0 (.ref b0 0) (.ref b1 0),h'))∧h'.bl b1 = some (.cells [v',.int .i64 (lexF x f s ahead.length).2])∧∃ y' z',h'.bl b0 = some (.cells [y',z'])) ∨
       ((∀ F,mask k164_0 F = s164_0 (.int .i64 x) (.str (ahead++s)) (.ref b0 0) (.ref b1 0)→EvCode E (.loop k164_0 l164_0) F h = some (.ret,r164 (.ref b0 0),h'))∧h'.bl b0 = some (.cells [v',.int .i64 (lexF x f s ahead.length).2])))
  | f,[],ahead,hf,hs,h,done,v,y,z,h1,h0,hg,hr,hro,hd=>by
    have e:lexF x f [] ahead.length = ([],ahead.length):=by cases f <;> rfl
    rw [e]
    refine ⟨h,v,by simpa using hg,⟨hro,hr,fun _ _ _ _=>rfl⟩,.inl ⟨fun F hF=>?_,h1,y,z,h0⟩⟩
    rw [EvCode_loop,hF]
    simp [l164_0,s164_0,x164_0,h1]
  | 0,c :: r,ahead,hf,hs,h,done,v,y,z,h1,h0,hg,hr,hro,hd=>by simp at hf
  | f + 1,c :: r,ahead,hf,hs,h,done,v,y,z,h1,h0,hg,hr,hro,hd=>by
    simp only [List.length_cons] at hf hs
    have hnx:=next_eq (H.to 176) x ahead c r (by omega)
    have hlt:(ahead.length:Int) < (ahead.length:Int) + ((r.length:Int) + 1):=by omega
    have n1:=blk_ne h1
    have n0:=blk_ne h0
    have hbb':¬ b1 = b0:=fun q=>hbb q.symm
    cases hn:nextS x (c :: r) with
    | none=>
      rw [hn] at hnx
      simp only [lexF,hn]
      simp only [gotCs] at hnx
      refine ⟨(h.push (.cells [.int .i64 0,.int .i64 0,.str [],.int .i64 0,.int .i64 0])).setBlk b0 (.cells [v,.int .i64 ahead.length]),v,?_,⟨by simpa using hro,by simpa using hr,fun b q0 _ q2=>(by have hq:¬ b = h.blks.length:=by { omega }; simp [Ne.symm q0,hq])⟩,.inr ⟨fun F hF=>?_,by simp [n0,h0]⟩⟩
      · rw [List.append_nil]
        exact Grow.of_heap hg rfl rfl
      · rw [EvCode_loop,hF]
        simp [l164_0,s164_0,h1,h0,n1,n0,hlt,EvCall_closed H.c176 rfl,hnx,push_set,hro,hg.cell,r164]
    | some g=>
      obtain ⟨k,t,n,l⟩:=g
      obtain ⟨l1,l2⟩:=next_len hn
      rw [hn] at hnx
      simp only [lexF,hn]
      simp only [gotCs] at hnx
      simp only [List.length_cons] at l2
      have hap:ahead++c :: r = (ahead++(c :: r).take l)++(c :: r).drop l:=by rw [List.append_assoc,List.take_append_drop]
      have hal:(ahead++(c :: r).take l).length = ahead.length + l:=by simp; omega
      obtain ⟨ts,v1,e1,g1,r1⟩:=grow_app (h:=h.push (.cells [.int .i64 k,.int .i64 ahead.length,.str t,.int .i64 n,.int .i64 l])) (bytes:=40) (m:=1) (xs:=Tok.cs ⟨k,ahead.length,t,n⟩) hg hr (by omega) (by omega) (by omega) rfl (Tok.all _)
      obtain ⟨hA,hAe⟩:∃ hA,(((h.push (.cells [.int .i64 k,.int .i64 ahead.length,.str t,.int .i64 n,.int .i64 l])).toks_ ts).setBlk b1 (.cells [v1,.int .i64 ((ahead.length:Int) + l)])) = hA:=⟨_,rfl⟩
      obtain ⟨h',v',q1,q2,q3⟩:=each164_loop H x hbb f ((c :: r).drop l) (ahead++(c :: r).take l) (by simp; omega) (by rw [hal]; simp; omega) hA (done++[⟨k,ahead.length,t,n⟩]) v1 y z
        (by rw [← hAe,hal]; simp [bl_toks,n1,h1]) (by rw [← hAe]; simp [bl_toks,n0,h0,hbb']) (by rw [← hAe]; exact Grow.of_heap (by simpa using g1) (by rfl) (by rfl)) (by rw [← hAe]; exact Nat.le_trans hr r1) (by rw [← hAe]; exact hro) (by rw [hal]; simp; omega)
      rw [← hap,hal] at q3
      rw [hal] at q1
      have hold:∀ b,b ≠ b0→b ≠ b1→b < h.blks.length→h'.bl b = h.bl b:=by
        intro b q0 q1' q2'
        rw [q2.2.2 b q0 q1' (by rw [← hAe]; simp [len_toks]; omega),← hAe]
        have hq:¬ b = h.blks.length:=by omega
        simp [bl_toks,Ne.symm q1',hq]
      refine ⟨h',v',by simpa using q1,⟨q2.1,q2.2.1,hold⟩,?_⟩
      have hl0:((l:Int) == 0) = false:=by simp; omega
      have w1:IntKind.i64.wrap ((ahead.length:Int) + l) = (ahead.length:Int) + l:=w64
      simp only [Tok.cs] at e1
      have hm1:=g1.cells
      unfold AV.cells? at hm1
      rcases q3 with ⟨q3,q4,q5⟩ | ⟨q3,q4⟩
      · refine .inl ⟨fun F hF=>?_,q4,q5⟩
        rw [EvCode_loop,hF]
        generalize EvCode E (.loop k164_0 l164_0) = lp at q3 ⊢
        simp [-den,l164_0,s164_0,h1,n1,hlt,EvCall_closed H.c176 rfl,hnx,push_set,hro,hl0,e1,hm1,g1.cell,w1,bl_toks,ro_toks,set_set]
        rw [hAe]
        exact q3 _ (by simp [s164_0])
      · refine .inr ⟨fun F hF=>?_,q4⟩
        rw [EvCode_loop,hF]
        generalize EvCode E (.loop k164_0 l164_0) = lp at q3 ⊢
        simp [-den,l164_0,s164_0,h1,n1,hlt,EvCall_closed H.c176 rfl,hnx,push_set,hro,hl0,e1,hm1,g1.cell,w1,bl_toks,ro_toks,set_set]
        rw [hAe]
        exact q3 _ (by simp [s164_0])
def toksV (l:List Tok):AV:=if l.isEmpty then .nils else .vs .shared l.length (l.flatMap Tok.cs)
theorem grow_shut {h:AHeap} {l:List Tok} {v:AV} (g:Grow h 4 (l.flatMap Tok.cs) l.length v):shut 0 0 v = some (toksV l):=by
 have hs:=shutL_flat (n:=0) (t:=0) (f:=Tok.cs) (fun t=>t.shut) l
 rcases g with ⟨rfl,_,h2⟩ | ⟨k,rfl,_,_,_,h5⟩
 ·have:l = []:=List.length_eq_zero_iff.1 h2
  subst this
  simp [toksV]
 ·have he:l.isEmpty = false:=by
   cases l with
   | nil=>simp at h5
   | cons a l=>rfl
  simp [toksV,he,hs]
def lexS (x:Int) (s:List UInt8):List Tok × Nat:=lexF x s.length s 0
theorem each164_open (H:Has 164 E) (x:Int) (s:List UInt8) (hs:s.length < 900000) (h:AHeap) (hro:h.ro = 0) (hr:h.rot ≤ h.toks.length):
  ∃ h' v',EvCall E (.fn (.func 164) [] []) [.int .i64 x,.str s] h = some (.ret (.agg [v',.int .i64 (lexS x s).2]),h')∧Grow h' 4 ((lexS x s).1.flatMap Tok.cs) (lexS x s).1.length v'∧h'.ro = 0∧h'.rot ≤ h'.toks.length∧∀ b,b < h.blks.length→h'.bl b = h.bl b:=by
 rw [EvCall_open H.c164 rfl,EvFn_eq]
 have n0:¬ h.blks.length = h.blks.length + 1:=by omega
 obtain ⟨h',v',q1,⟨q2,q6,q7⟩,q3⟩:=each164_loop H x n0 s.length s [] (Nat.le_refl _) (by simpa using hs) ((h.push (.cells [.nils,.int .i64 0])).push (.cells [.nils,.int .i64 0])) [] .nils .nils (.int .i64 0) (by simp) (by simp) (grow_nil _ _) hr hro (Nat.le_refl _)
 have e:lexF x s.length s ([]:List UInt8).length = lexS x s:=rfl
 rw [e] at q1 q3
 simp only [List.nil_append] at q1 q3
 have hv:=q1.cell
 have hcs:=q1.cells
 unfold AV.cells? at hcs
 have hold:∀ b,b < h.blks.length→h'.bl b = h.bl b:=by
  intro b hb
  rw [q7 b (by omega) (by omega) (by simp; omega)]
  have q1:¬ b = h.blks.length:=by omega
  have q2:¬ b = h.blks.length + 1:=by omega
  simp [q1,q2]
 rcases q3 with ⟨q3,q4,y,z,q5⟩ | ⟨q3,q4⟩
 ·refine ⟨h'.setBlk h.blks.length (.cells [v',.int .i64 (lexS x s).2]),v',?_,Grow.of_heap q1 rfl rfl,q2,q6,fun b hb=>by rw [bl_set,if_neg (by omega)]; exact hold b hb⟩
  simp [f164,start,push_setk,hro]
  rw [q3 _ (by simp [s164_0])]
  simp [x164_0,q4,q5,q2,hv]
 ·refine ⟨h',v',?_,q1,q2,q6,hold⟩
  simp [f164,start,push_setk,hro]
  rw [q3 _ (by simp [s164_0])]
  simp [r164,q4]
end Go.Pv
/- Tokens: what the reference's Join comes to. Conditions: the functions' codes; theorems. -/
namespace Go.Pv
variable {E:Env}
theorem toksV_shut (l:List Tok):shut 0 0 (toksV l) = some (toksV l):=by
 have hs:=shutL_flat (n:=0) (t:=0) (f:=Tok.cs) (fun t=>t.shut) l
 unfold toksV
 split <;> simp [hs]
end Go.Pv
