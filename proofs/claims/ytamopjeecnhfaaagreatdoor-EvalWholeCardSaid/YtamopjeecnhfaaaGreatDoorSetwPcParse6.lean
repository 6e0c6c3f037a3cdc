/- A part of the proof: functions of the program in the evaluator's code, and what they come to. Conditions: none; definitions and theorems that the statement's proof uses. -/
import Derived.Test.YtamopjeecnhfaaaGreatDoorSetwPcParse3
import Derived.Test.YtamopjeecnhfaaaGreatDoorSetwPcLex7
/- The parser's products. Conditions: the functions' codes; theorems. -/
namespace Go.Pv
variable {E:Env} {x sz:Int} {p nest:Nat} {h:AHeap} {l:List Tok} {u:Option Tok}
theorem base_fits {r:Nat} (l:List Tok) (u:Option Tok):Fits 0 l (baseP x sz (levelP x sz r) l u):=baseP_fits (levelP_fits r) l u
set_option maxHeartbeats 1000000 in
theorem itemB_ok (H:Has 69 E) (hx:1 ≤ x∧x ≤ 5) {r:Nat} (hr:nest + r = 32) (D:Deeper E x sz p nest r) (S:PS x sz (sty x) p h nest l u) (hl:l.length < 900000) (h9:isT 9 l = false):
  Tells E x sz (sty x) p h nest 69 [.ref p 0] (itemB x sz (levelP x sz r) l u):=by
 have i9:=is_ok (H.to 82) S 9
 have q:=base_ok (H.to 84) hx hr D S hl
 have fit:=base_fits (x:=x) (sz:=sz) (r:=r) l u
 unfold itemB
 cases hb:baseP x sz (levelP x sz r) l u with
 | error e=>
  rw [hb] at q
  obtain ⟨g,e1,K⟩:=q
  refine ⟨g,?_,K⟩
  rw [EvCall_open H.c69 rfl,EvFn_eq]
  simp [f69,start,i9,h9,e1]
 | ok v=>
  obtain ⟨t,l',u'⟩:=v
  rw [hb] at q fit
  simp only [Fits] at fit
  obtain ⟨g,v,e1,q2,q3,q4⟩:=q
  have k9:=is_ok (H.to 82) q3 9
  have no:isT 9 l' = false→noteP (t,l',u') = .ok (t,l',u'):=by
   intro hn
   cases l' with
   | nil=>rfl
   | cons k m=>
    have:(k.kind == 9) = false:=hn
    simp [noteP,this]
  cases hn:isT 9 l' with
  | false=>
   simp only [no hn]
   refine ⟨g,v,?_,q2,q3,q4⟩
   rw [EvCall_open H.c69 rfl,EvFn_eq]
   simp [f69,start,i9,h9,e1,k9,hn]
  | true=>
   cases l' with
   | nil=>cases hn
   | cons k m=>
    have hk:(k.kind == 9) = true:=hn
    simp only [noteP,hk,if_true]
    obtain ⟨g2,e2,S2,K2⟩:=take_ok (H.to 83) q3
    have G2:=q2.keep K2
    have K3:=q4.trans K2
    simp only [List.length_cons] at fit
    have hs:sliceCells g2 6 (.vs .full 1 (StepA.cs ⟨6,-1,0,0,0,k.text⟩)) = some (1,StepA.cs ⟨6,-1,0,0,0,k.text⟩):=by simp [sliceCells,StepA.len]
    obtain ⟨ts,v',a1,G3,K4,hts⟩:=growF_app (bytes:=56) G2 rfl K3 S2.rot (by omega) fit.2 (by omega) (by omega) hs (by simp [StepA.len]) (StepA.all _)
    refine ⟨g2.toks_ ts,v',?_,by simpa using G3,S2.toks hts,K4⟩
    rw [EvCall_open H.c69 rfl,EvFn_eq]
    simp only [StepA.cs] at a1
    simp only [Tok.cs] at e2
    simp [-den,f69,start,i9,h9,e1,k9,hn,e2,a1]
theorem item_ok (H:Has 69 E) (hx:1 ≤ x∧x ≤ 5) {r:Nat} (hr:nest + r = 32) (D:Deeper E x sz p nest r) (S:PS x sz (sty x) p h nest l u) (hl:l.length < 900000):
  Tells E x sz (sty x) p h nest 69 [.ref p 0] (itemP x sz (levelP x sz r) l u):=by
 cases l with
 | nil=>exact itemB_ok H hx hr D S hl rfl
 | cons t l=>
  simp only [itemP]
  split
  ·rename_i h9
   have j9:isT 9 (t :: l) = true:=h9
   have i9:=is_ok (H.to 82) S 9
   obtain ⟨g,e1,S1,K1⟩:=take_ok (H.to 83) S
   refine ⟨g,.vs .full 1 (StepA.cs ⟨7,-1,0,0,0,t.text⟩),?_,growF_one _ _ _,S1,K1⟩
   rw [EvCall_open H.c69 rfl,EvFn_eq]
   simp only [Tok.cs] at e1
   simp [f69,start,i9,j9,e1,StepA.cs]
  ·rename_i h9
   exact itemB_ok H hx hr D S hl (by simpa [isT] using h9)
theorem item_fits {r:Nat} (l:List Tok) (u:Option Tok):Fits 0 l (itemP x sz (levelP x sz r) l u):=itemP_fits (levelP_fits r) l u
def LoopT (E:Env) (x sz:Int) (p:Nat) (h0 h:AHeap) (nest:Nat) (v:AV):Res (List StepA)→Prop
 | .ok (t,l',u')=>∃ h' v',(∀ F,mask k49_0 F = s49_0 (.ref p 0) v→EvCode E (.loop k49_0 l49_0) F h = some (.exit 0,x49_0 v',h'))∧GrowF h0.toks.length h' 6 (t.flatMap StepA.cs) t.length v'∧PS x sz (sty x) p h' nest l' u'∧Stay p h0 h'
 | .error e=>∃ h' F',(∀ F,mask k49_0 F = s49_0 (.ref p 0) v→EvCode E (.loop k49_0 l49_0) F h = some (.panic (errV e),F',h'))∧F'.ds = []∧Stay p h0 h'
set_option maxHeartbeats 2000000 in
theorem loop_ok (H:Has 49 E) (hx:1 ≤ x∧x ≤ 5) {r:Nat} (hr:nest + r = 32) (D:Deeper E x sz p nest r) {h0:AHeap}:∀ (f:Nat) (l:List Tok) (t:List StepA) (u:Option Tok) (h:AHeap) (v:AV),
    l.length ≤ f→1 ≤ t.length→t.length + l.length < 900000→PS x sz (sty x) p h nest l u→GrowF h0.toks.length h 6 (t.flatMap StepA.cs) t.length v→Stay p h0 h→LoopT E x sz p h0 h nest v (loopP x sz (levelP x sz r) f t l u):=by
  intro f
  induction f with
  | zero=>
    intro l t u h v hf ht hl S G K
    have:l = []:=List.length_eq_zero_iff.1 (by omega)
    subst this
    have m4:=may_not (H.to 68) S (k:=4) rfl
    have m5:=may_not (H.to 68) S (k:=5) rfl
    refine ⟨h,v,fun F hF=>?_,G,S,K⟩
    rw [EvCode_loop,hF]
    simp [l49_0,s49_0,m4,m5,x49_0]
  | succ f ih=>
    intro l t u h v hf ht hl S G K
    cases l with
    | nil=>
      have m4:=may_not (H.to 68) S (k:=4) rfl
      have m5:=may_not (H.to 68) S (k:=5) rfl
      refine ⟨h,v,fun F hF=>?_,G,S,K⟩
      rw [EvCode_loop,hF]
      simp [l49_0,s49_0,m4,m5,x49_0]
    | cons k m=>
      simp only [List.length_cons] at hf hl
      simp only [loopP]
      split
      · rename_i hk
        have one:∃ (g:AHeap) (o:Int),(if k.kind == 4 then (3:Int) else 4) = o∧PS x sz (sty x) p g nest m u∧Stay p h g ∧
            ((o = 3∧EvCall E (.fn (.func 68) [] []) [.ref p 0,.int .i64 4] h = some (.ret (.bool true),g)) ∨
             (o = 4∧EvCall E (.fn (.func 68) [] []) [.ref p 0,.int .i64 4] h = some (.ret (.bool false),h)∧EvCall E (.fn (.func 68) [] []) [.ref p 0,.int .i64 5] h = some (.ret (.bool true),g))):=by
          cases h4:k.kind == 4 with
          | true=>
            obtain ⟨g,e,S1,K1⟩:=may_ok (H.to 68) S (k:=4) (by simpa using h4)
            exact ⟨g,3,by simp,S1,K1,.inl ⟨rfl,e⟩⟩
          | false=>
            have h5:(k.kind == 5) = true:=by simpa [h4] using hk
            have m4:=may_not (H.to 68) S (k:=4) h4
            obtain ⟨g,e,S1,K1⟩:=may_ok (H.to 68) S (k:=5) (by simpa using h5)
            exact ⟨g,4,by simp,S1,K1,.inr ⟨rfl,m4,e⟩⟩
        obtain ⟨g,o,ho,S1,K1,hc⟩:=one
        rw [ho]
        have q:=item_ok (H.to 69) hx hr D S1 (by omega)
        have fit:=item_fits (x:=x) (sz:=sz) (r:=r) m u
        have G1:=G.keep K1
        have KK:=K.trans K1
        cases hi:itemP x sz (levelP x sz r) m u with
        | error e=>
          rw [hi] at q
          obtain ⟨g2,e2,K2⟩:=q
          have fin:(∃ F',EvCode E l49_0 (s49_0 (.ref p 0) v) h = some (.panic (errV e),F',g2)∧F'.ds = []):=by
            rcases hc with ⟨rfl,c1⟩ | ⟨rfl,c1,c2⟩
            · simp [l49_0,s49_0,c1,e2]
            · simp [l49_0,s49_0,c1,c2,e2]
          obtain ⟨F',b1,b2⟩:=fin
          exact ⟨g2,F',fun F hF=>by rw [EvCode_loop,hF,b1]; rfl,b2,KK.trans K2⟩
        | ok w=>
          obtain ⟨t',l',u'⟩:=w
          rw [hi] at q fit
          simp only [Fits] at fit
          obtain ⟨g2,v1,e2,G2,S2,K2⟩:=q
          obtain ⟨hs,hsl⟩:=G2.slice (g:=g2)
          obtain ⟨ts,v2,a1,G3,K3,ht1⟩:=growF_app (bytes:=56) (G1.keep K2) rfl (KK.trans K2) S2.rot (by omega) ht (by omega) (by omega) hs hsl (all_flat StepA.all _)
          have S3:=S2.toks ht1
          have hs2:sliceCells (g2.toks_ ts) 6 (.vs .full 1 (StepA.cs ⟨o,-1,0,0,0,[]⟩)) = some (1,StepA.cs ⟨o,-1,0,0,0,[]⟩):=by simp [sliceCells,StepA.len]
          obtain ⟨us,v3,a2,G4,K4,ht2⟩:=growF_app (bytes:=56) G3 rfl K3 S3.rot (by omega) (by omega) (by omega) (by omega) hs2 (by simp [StepA.len]) (StepA.all _)
          have S4:=S3.toks ht2
          have L:=ih l' (t++t'++[⟨o,-1,0,0,0,[]⟩]) u' ((g2.toks_ ts).toks_ us) v3 (by omega) (by simp only [List.length_append,List.length_cons,List.length_nil]; omega) (by simp only [List.length_append,List.length_cons,List.length_nil]; omega) S4 (by simpa [Nat.add_assoc] using G4) K4
          simp only [StepA.cs] at a2
          show LoopT E x sz p h0 h nest v (loopP x sz (levelP x sz r) f (t++t'++[⟨o,-1,0,0,0,[]⟩]) l' u')
          cases hL:loopP x sz (levelP x sz r) f (t++t'++[⟨o,-1,0,0,0,[]⟩]) l' u' with
          | error e=>
            rw [hL] at L
            obtain ⟨h',F',b1,b2,b3⟩:=L
            refine ⟨h',F',fun F hF=>?_,b2,b3⟩
            rw [EvCode_loop,hF]
            generalize EvCode E (.loop k49_0 l49_0) = lp at b1 ⊢
            rcases hc with ⟨rfl,c1⟩ | ⟨rfl,c1,c2⟩
            · simp [-den,l49_0,s49_0,c1,e2,a1,a2]
              exact b1 _ (by simp [s49_0])
            · simp [-den,l49_0,s49_0,c1,c2,e2,a1,a2]
              exact b1 _ (by simp [s49_0])
          | ok z=>
            obtain ⟨tt,ll,uu⟩:=z
            rw [hL] at L
            obtain ⟨h',v',b1,b2,b3,b4⟩:=L
            refine ⟨h',v',fun F hF=>?_,b2,b3,b4⟩
            rw [EvCode_loop,hF]
            generalize EvCode E (.loop k49_0 l49_0) = lp at b1 ⊢
            rcases hc with ⟨rfl,c1⟩ | ⟨rfl,c1,c2⟩
            · simp [-den,l49_0,s49_0,c1,e2,a1,a2]
              exact b1 _ (by simp [s49_0])
            · simp [-den,l49_0,s49_0,c1,c2,e2,a1,a2]
              exact b1 _ (by simp [s49_0])
      · rename_i hk
        have h4:isT 4 (k :: m) = false:=by
          cases h:isT 4 (k :: m)
          · rfl
          · exact absurd (by simp [show (k.kind == 4) = true from h]) hk
        have h5:isT 5 (k :: m) = false:=by
          cases h:isT 5 (k :: m)
          · rfl
          · exact absurd (by simp [show (k.kind == 5) = true from h]) hk
        have m4:=may_not (H.to 68) S h4
        have m5:=may_not (H.to 68) S h5
        refine ⟨h,v,fun F hF=>?_,G,S,K⟩
        rw [EvCode_loop,hF]
        simp [l49_0,s49_0,m4,m5,x49_0]
theorem main_ok (H:Has 49 E) (hx:1 ≤ x∧x ≤ 5) {r:Nat} (hr:nest + r = 32) (D:Deeper E x sz p nest r) (S:PS x sz (sty x) p h nest l u) (hl:l.length < 900000):
  Tells E x sz (sty x) p h nest 49 [.ref p 0] (mainP x sz (levelP x sz r) l u):=by
 have start_:∃ g b l1,isT 5 l = b∧(if isT 5 l then l.tail else l) = l1∧l1.length + (if b then 1 else 0) = l.length∧EvCall E (.fn (.func 68) [] []) [.ref p 0,.int .i64 5] h = some (.ret (.bool b),g)∧PS x sz (sty x) p g nest l1 u∧Stay p h g:=by
  cases h5:isT 5 l with
  | false=>exact ⟨h,false,l,rfl,by simp,by simp,may_not (H.to 68) S h5,S,Stay.refl _ _⟩
  | true=>
   cases l with
   | nil=>cases h5
   | cons k m=>
    obtain ⟨g,e,S1,K1⟩:=may_ok (H.to 68) S (k:=5) (by simpa [isT] using h5)
    exact ⟨g,true,m,rfl,by simp,by simp,e,S1,K1⟩
 obtain ⟨g,b,l1,h5,hl1,hll,e1,S1,K1⟩:=start_
 have q:=item_ok (H.to 69) hx hr D S1 (by omega)
 have fit:=item_fits (x:=x) (sz:=sz) (r:=r) l1 u
 unfold mainP
 rw [hl1,h5]
 cases hi:itemP x sz (levelP x sz r) l1 u with
 | error e=>
  rw [hi] at q
  obtain ⟨g2,e2,K2⟩:=q
  refine ⟨g2,?_,K1.trans K2⟩
  rw [EvCall_open H.c49 rfl,EvFn_eq]
  simp [f49,start,e1,e2]
 | ok w=>
  obtain ⟨t,l',u'⟩:=w
  rw [hi] at q fit
  simp only [Fits] at fit
  obtain ⟨g2,v1,e2,G2,S2,K2⟩:=q
  have KK:=K1.trans K2
  have G2':=G2.low (k1:=h.toks.length) K1.tlen
  have mid:∃ (hh:AHeap) (vv:AV),(∀ (c:Fr→AHeap→Out) (F:Fr),True)∧GrowF h.toks.length hh 6 ((if b then t++[⟨5,-1,0,0,0,[]⟩] else t).flatMap StepA.cs) (if b then t++[⟨5,-1,0,0,0,[]⟩] else t).length vv∧PS x sz (sty x) p hh nest l' u'∧Stay p h hh ∧
    ((b = false∧hh = g2∧vv = v1)∨(b = true∧∃ ts,hh = g2.toks_ ts∧appendA 6 56 g2 (den v1) (.vs .full 1 (StepA.cs ⟨5,-1,0,0,0,[]⟩)) = some (vv,g2.toks_ ts))):=by
   cases b with
   | false=>exact ⟨g2,v1,fun _ _=>trivial,G2',S2,KK,.inl ⟨rfl,rfl,rfl⟩⟩
   | true=>
    have hs2:sliceCells g2 6 (.vs .full 1 (StepA.cs ⟨5,-1,0,0,0,[]⟩)) = some (1,StepA.cs ⟨5,-1,0,0,0,[]⟩):=by simp [sliceCells,StepA.len]
    obtain ⟨ts,v2,a1,G3,K3,ht1⟩:=growF_app (bytes:=56) G2' rfl KK S2.rot (by omega) fit.2 (by omega) (by omega) hs2 (by simp [StepA.len]) (StepA.all _)
    exact ⟨g2.toks_ ts,v2,fun _ _=>trivial,by simpa using G3,S2.toks ht1,K3,.inr ⟨rfl,ts,rfl,a1⟩⟩
  obtain ⟨hh,vv,_,G3,S3,K3,hm⟩:=mid
  simp only [StepA.cs] at hm
  have hlen:(if b then t++[(⟨5,-1,0,0,0,[]⟩:StepA)] else t).length = t.length + (if b then 1 else 0):=by cases b <;> simp
  have L:=loop_ok H hx hr D (h0:=h) l'.length l' _ u' hh vv (Nat.le_refl _) (by rw [hlen]; omega) (by rw [hlen]; omega) S3 G3 K3
  simp only
  cases hL:loopP x sz (levelP x sz r) l'.length (if b then t++[⟨5,-1,0,0,0,[]⟩] else t) l' u' with
  | error e=>
   rw [hL] at L
   obtain ⟨h',F',b1,b2,b3⟩:=L
   refine ⟨h',?_,b3⟩
   rw [EvCall_open H.c49 rfl,EvFn_eq]
   rcases hm with ⟨rfl,rfl,rfl⟩ | ⟨rfl,ts,rfl,hm⟩
   ·simp [f49,start,e1,e2]
    rw [b1 _ (by simp [s49_0])]
    simp [b2]
   ·simp [-den,f49,start,e1,e2,hm]
    rw [b1 _ (by simp [s49_0])]
    simp [b2]
  | ok z=>
   obtain ⟨tt,ll,uu⟩:=z
   rw [hL] at L
   obtain ⟨h',v',b1,b2,b3,b4⟩:=L
   refine ⟨h',v',?_,b2,b3,b4⟩
   rw [EvCall_open H.c49 rfl,EvFn_eq]
   rcases hm with ⟨rfl,rfl,rfl⟩ | ⟨rfl,ts,rfl,hm⟩
   ·simp [f49,start,e1,e2]
    rw [b1 _ (by simp [s49_0])]
    simp [x49_0]
   ·simp [-den,f49,start,e1,e2,hm]
    rw [b1 _ (by simp [s49_0])]
    simp [x49_0]
theorem main_any (H:Has 49 E) (hx:1 ≤ x∧x ≤ 5):∀ (r nest:Nat),nest + r = 32→∀ h l u,PS x sz (sty x) p h nest l u→l.length < 900000→Tells E x sz (sty x) p h nest 49 [.ref p 0] (mainP x sz (levelP x sz r) l u)
 | 0,nest,hr=>fun h l u S hl=>main_ok H hx hr (fun r' h0=>by cases h0) S hl
 | r + 1,nest,hr=>fun h l u S hl=>main_ok H hx hr (fun r' h0 g l u S hl=>by
   have:r' = r:=by omega
   subst this
   exact main_any H hx r' (nest + 1) (by omega) g l u S hl) S hl
end Go.Pv
/- Tokens: what AppendSeq of a text's tokens comes to. Conditions: the functions' codes; theorems. -/
namespace Go.Pv
variable {E:Env}
theorem seq_round {h:AHeap} {t:List AV} {k:Tok} {done:List Tok} {v:AV} (hl:h.bl 4 = some (.loop .ready none t [7] a31_0 b31_0)) (hro:h.ro = 0) (ht:t.length = 13) (h2:t[2]? = some (.ref 3 0))
  (h1:h.bl 3 = some (.cells [v])) (hg:Grow h 4 (done.flatMap Tok.cs) done.length v) (hr:h.rot ≤ h.toks.length) (hd:done.length < 1000000):
  ∃ ts v',EvCall E (.fn (.yield 4) [] []) (tokArgs k) h = some (.ret (.bool true),((((h.push (.cells k.cs)).setBlk 4 (.loop .busy none t [7] a31_0 b31_0)).toks_ ts).setBlk 3 (.cells [v'])).setBlk 4 (.loop .ready none t [7] a31_0 b31_0)) ∧
   Grow (h.toks_ ts) 4 ((done++[k]).flatMap Tok.cs) (done++[k]).length v'∧h.toks.length ≤ ts.length:=by
 obtain ⟨ts,v',e1,g1,r1⟩:=grow_app (h:=(h.push (.cells k.cs)).setBlk 4 (.loop .busy none t [7] a31_0 b31_0)) (bytes:=40) (m:=1) (xs:=k.cs) (hg.of_heap (by rfl) (by rfl)) (by exact hr) (by omega) (by omega) (by omega) rfl (Tok.all _)
 refine ⟨ts,v',?_,?_,r1⟩
 ·have hm1:=g1.cells
  unfold AV.cells? at hm1
  simp only [Tok.cs] at e1
  simp only [tokArgs,Tok.cs]
  rw [EvCall_yield,EvRound_eq (h:=h) hl rfl]
  have hne:=blk_ne hl
  have hne1:=blk_ne h1
  simp only [a31_0,b31_0] at hl e1
  simp [-den,-getElem?_pos,a31_0,b31_0,setAll,beginRd,endRd,hl,hro,h1,h2,ht,push_set,hne,hne1,e1,hm1,g1.cell,bl_toks,ro_toks]
 ·have:=g1.of_heap (h':=h.toks_ ts) rfl rfl
  simpa using this
structure SeqGood (x:Int) (s:List UInt8) (t:List AV) (b0:ABlk) (all rest:List Tok) (h:AHeap):Prop where
 rec_:h.bl 4 = some (.loop .ready none t [7] a31_0 b31_0)
 c0:h.bl 0 = some b0
 c1:h.bl 1 = some (.cells [.int .i64 x])
 c2:h.bl 2 = some (.cells [.str s])
 ro:h.ro = 0
 rot:h.rot ≤ h.toks.length
 len:5 ≤ h.blks.length
 out:∃ done v,done++rest = all∧h.bl 3 = some (.cells [v])∧Grow h 4 (done.flatMap Tok.cs) done.length v
theorem seq_yields {x:Int} {s:List UInt8} {t:List AV} {b0:ABlk} {all:List Tok} (ht:t.length = 13) (h2:t[2]? = some (.ref 3 0)) (hall:all.length < 1000000):
  YieldsL E (.fn (.yield 4) [] []) 5 tokArgs (SeqGood x s t b0 all) where
 len:=fun l h hg=>hg.len
 ro:=fun l h hg=>by rw [hg.ro]; omega
 call:=fun k l h hg=>by
  obtain ⟨done,v,hd,h1,hgr⟩:=hg.out
  have hlen:done.length < 1000000:=by
   have:=congrArg List.length hd
   simp at this
   omega
  obtain ⟨ts,v',q1,q2,q3⟩:=seq_round (k:=k) hg.rec_ hg.ro ht h2 h1 hgr hg.rot hlen
  have hl:=hg.len
  refine ⟨_,q1,⟨?_,?_,?_,?_,hg.ro,?_,?_,done++[k],v',by simpa using hd,?_,?_⟩,⟨fun j h1 h2=>?_,?_,?_,?_⟩⟩
  ·simp [bl_toks,hg.rec_,blk_ne hg.rec_]
  ·simp [bl_toks,hg.c0,blk_ne hg.c0]
  ·simp [bl_toks,hg.c1,blk_ne hg.c1]
  ·simp [bl_toks,hg.c2,blk_ne hg.c2]
  ·exact Nat.le_trans hg.rot q3
  ·simp [len_toks]; omega
  ·simp [bl_toks,h1,blk_ne h1]
  ·exact Grow.of_heap q2 (by rfl) (by rfl)
  ·rw [bl_set,if_neg (by omega),bl_set,if_neg (by omega),bl_toks,bl_set,if_neg (by omega),bl_push,if_neg (by omega)]
  ·simp [len_toks]
  ·rfl
  ·rfl
 keep:=fun l h h' hg o=>⟨(o.old 4 (by omega)).trans hg.rec_,(o.old 0 (by omega)).trans hg.c0,(o.old 1 (by omega)).trans hg.c1,(o.old 2 (by omega)).trans hg.c2,o.ro.trans hg.ro,by rw [o.rot,o.toks]; exact hg.rot,Nat.le_trans hg.len o.len,by
  obtain ⟨done,v,hd,h1,hgr⟩:=hg.out
  exact ⟨done,v,hd,(o.old 3 (by omega)).trans h1,hgr.of_heap o.toks o.rot⟩⟩
theorem seq_eq (H:Has 31 E) (H46:Has 46 E) (x:Int) (s:List UInt8) (hs:s.length < 900000) (b0:ABlk):
  ∃ h' v,EvCall E (.fn (.func 31) [] []) [.nils,.fn (.func 46) [] [.ref 2 0,.ref 1 0]] (((heap0.push b0).push (.cells [.int .i64 x])).push (.cells [.str s])) = some (.ret v,h')∧Grow h' 4 ((lexS x s).1.flatMap Tok.cs) (lexS x s).1.length v∧h'.bl 0 = some b0∧h'.ro = 0∧h'.rot ≤ h'.toks.length:=by
 rw [EvCall_open H.c31 rfl,EvFn_eq]
 obtain ⟨t,ht⟩:∃ t,([.nils,.fn (.func 46) [] [.ref 2 0,.ref 1 0],.ref 3 0,.junk,.nils,.junk,.fn (.func 46) [] [.ref 2 0,.ref 1 0],.junk,.junk,.junk,.junk,.junk,.junk]:List AV) = t:=⟨_,rfl⟩
 obtain ⟨g,hg⟩:∃ g,((((heap0.push b0).push (.cells [.int .i64 x])).push (.cells [.str s])).push (.cells [.nils])).push (.loop .ready none t [7] a31_0 b31_0) = g:=⟨_,rfl⟩
 have hll:=lexF_len x s.length s 0
 have hS:lexF x s.length s 0 = lexS x s:=rfl
 rw [hS] at hll
 obtain ⟨h',q1,q2,q3⟩:=each46_range H46 x (seq_yields (x:=x) (s:=s) (t:=t) (b0:=b0) (all:=(lexS x s).1) (by rw [← ht]; rfl) (by rw [← ht]; rfl) (by omega)) (fun l h hh=>hh.c2) (fun l h hh=>hh.c1) hs g
  ⟨by rw [← hg]; simp,by rw [← hg]; simp,by rw [← hg]; simp,by rw [← hg]; simp,by rw [← hg]; rfl,by rw [← hg]; simp [heap0,AHeap.push],by rw [← hg]; simp,[],.nils,rfl,by rw [← hg]; simp,grow_nil _ _⟩
 obtain ⟨done,v,hd,h1,hgr⟩:=q2.out
 rw [List.append_nil] at hd
 subst hd
 have hrec:=q2.rec_
 have hro:=q2.ro
 refine ⟨h'.setBlk 4 .dead,v,?_,hgr.of_heap rfl rfl,by simp [q2.c0],hro,q2.rot⟩
 simp [f31,start]
 rw [EvCode_rangeFunc (j:=46) (first:=[]) (caps:=[.ref 2 0,.ref 1 0]) rfl (by simp)]
 simp
 rw [ht,hg,q1]
 simp [endRange,hro,hrec,h1,← ht]
end Go.Pv
