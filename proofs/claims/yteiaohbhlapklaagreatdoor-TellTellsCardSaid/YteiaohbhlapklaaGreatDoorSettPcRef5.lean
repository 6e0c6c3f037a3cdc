/- A part of the proof: functions of the program in the evaluator's code, and what they come to. Conditions: none; definitions and theorems that the statement's proof uses. -/
import Derived.Test.YteiaohbhlapklaaGreatDoorSettPcRef3
/- The reference's parser: products. Conditions: the functions' codes; theorems. -/
namespace Go.Pv
variable {E:Env} {x sz:Int} {p nest:Nat} {h:AHeap} {all l:List Tok} {e:Option PErr} {u:Option Tok}
set_option maxHeartbeats 1000000 in
theorem itemRB_ok (H:Has 209 E) (hx:1 ≤ x∧x ≤ 5) {r:Nat} (hr:nest + r = 32) (D:DeeperR E x sz p nest r) (S:RS x sz p h nest all l none u) (h9:isT 9 l = false):
  TellsR E x sz p h nest all l 209 [.ref p 0] (itemB x sz (levelP x sz r) l u):=by
 have hn:=now_ok (H.to 210) S
 have m9:=mayR_not (H.to 208) S (k:=9) (by omega) h9
 have q:=baseR_ok (H.to 214) hx hr D S
 have fit:=baseP_fits (x:=x) (sz:=sz) (inner:=levelP x sz r) (levelP_fits r) l u
 have sm:=S.sm
 have sl:=S.len
 simp only [Tok.cs] at hn
 unfold itemB
 cases hb:baseP x sz (levelP x sz r) l u with
 | error d=>
  rw [hb] at q
  obtain ⟨g,v,tt,l',u',q1,q2,q3,q4,q5⟩:=q
  have hn2:=now_ok (H.to 210) q4
  have m92:=mayR_err (H.to 208) q4 9
  simp only [Tok.cs] at hn2
  refine ⟨g,v,tt,l',u',?_,q2,q3,q4,q5⟩
  rw [EvCall_open H.c209 rfl,EvFn_eq]
  simp [f209,start,hn,m9,q1,hn2,m92]
 | ok w=>
  obtain ⟨t,l',u'⟩:=w
  rw [hb] at q fit
  simp only [Fits] at fit
  obtain ⟨g,v,e1,q2,q3,q4⟩:=q
  have hn2:=now_ok (H.to 210) q3
  have no:isT 9 l' = false→noteP (t,l',u') = .ok (t,l',u'):=by
   intro hn
   cases l' with
   | nil=>rfl
   | cons k m=>
    have:(k.kind == 9) = false:=hn
    simp [noteP,this]
  cases h9':isT 9 l' with
  | false=>
   have m92:=mayR_not (H.to 208) q3 (k:=9) (by omega) h9'
   simp only [no h9']
   simp only [Tok.cs] at hn2
   refine ⟨g,v,?_,q2,q3,q4⟩
   rw [EvCall_open H.c209 rfl,EvFn_eq]
   simp [f209,start,hn,m9,e1,hn2,m92]
  | true=>
   cases l' with
   | nil=>cases h9'
   | cons k m=>
    have hk:(k.kind == 9) = true:=h9'
    simp only [noteP,hk,if_true]
    obtain ⟨g2,e2,S2,K2⟩:=mayR_ok (H.to 208) q3 (k:=9) (by omega) (by simpa using hk)
    have G2:=q2.keep K2
    have K3:=q4.trans K2
    simp only [List.length_cons] at fit
    have hs:sliceCells g2 6 (.vs .full 1 (StepA.cs ⟨6,-1,0,0,0,k.text⟩)) = some (1,StepA.cs ⟨6,-1,0,0,0,k.text⟩):=by simp [sliceCells,StepA.len]
    obtain ⟨ts,v',a1,G3,K4,hts⟩:=growF_app (bytes:=56) G2 rfl K3 S2.rot (by omega) fit.2 (by omega) (by omega) hs (by simp [StepA.len]) (StepA.all _)
    refine ⟨g2.toks_ ts,v',?_,by simpa using G3,S2.toks hts,K4⟩
    rw [EvCall_open H.c209 rfl,EvFn_eq]
    simp only [StepA.cs] at a1
    simp only [Tok.cs,nowT] at hn2
    simp [-den,f209,start,hn,m9,e1,hn2,e2,a1]
theorem itemR_ok (H:Has 209 E) (hx:1 ≤ x∧x ≤ 5) {r:Nat} (hr:nest + r = 32) (D:DeeperR E x sz p nest r) (S:RS x sz p h nest all l none u):
  TellsR E x sz p h nest all l 209 [.ref p 0] (itemP x sz (levelP x sz r) l u):=by
 cases l with
 | nil=>exact itemRB_ok H hx hr D S rfl
 | cons t l=>
  simp only [itemP]
  split
  ·rename_i h9
   have hn:=now_ok (H.to 210) S
   obtain ⟨g,e1,S1,K1⟩:=mayR_ok (H.to 208) S (k:=9) (by omega) (by simpa using h9)
   refine ⟨g,.vs .full 1 (StepA.cs ⟨7,-1,0,0,0,t.text⟩),?_,growF_one _ _ _,S1,K1⟩
   rw [EvCall_open H.c209 rfl,EvFn_eq]
   simp only [Tok.cs,nowT] at hn
   simp [f209,start,hn,e1,StepA.cs]
  ·rename_i h9
   exact itemRB_ok H hx hr D S (by simpa [isT] using h9)
theorem err_cell (S:RS x sz p h nest all l e u):∃ (a0 a1 a2 a3 a4:AV) (b:List AV),h.bl p = some (.cells (a0 :: a1 :: a2 :: a3 :: a4 :: .nils :: .int .i64 (errNo e) :: b))∧1 ≤ b.length:=by
 obtain ⟨⟨i,_,_,h3⟩,_⟩:=S
 exact ⟨_,_,_,_,_,_,h3,by simp⟩
theorem loopR_err {q:PErr} {v:AV} (S:RS x sz p h nest all l (some q) u):∀ F,mask k198_0 F = s198_0 (.ref p 0) v→EvCode E (.loop k198_0 l198_0) F h = some (.exit 0,x198_0 v,h):=by
 intro F hF
 have hq:=S.ne q rfl
 obtain ⟨a0,a1,a2,a3,a4,b,hb,hl⟩:=err_cell S
 simp only [errNo,Option.map_some,Option.getD_some] at hb
 rw [EvCode_loop,hF]
 simp [l198_0,s198_0,hb,hq,x198_0]
def LoopR (E:Env) (x sz:Int) (p:Nat) (h0 h:AHeap) (nest:Nat) (all:List Tok) (b:Nat) (v:AV):Res (List StepA)→Prop
 | .ok (t,l',u')=>∃ h' v',(∀ F,mask k198_0 F = s198_0 (.ref p 0) v→EvCode E (.loop k198_0 l198_0) F h = some (.ret,r198 v',h'))∧GrowF h0.toks.length h' 6 (t.flatMap StepA.cs) t.length v'∧RS x sz p h' nest all l' none u'∧Stay p h0 h'
 | .error q=>∃ (h':AHeap) (v':AV) (t:List StepA) (l':List Tok) (u':Option Tok),(∀ F,mask k198_0 F = s198_0 (.ref p 0) v→EvCode E (.loop k198_0 l198_0) F h = some (.exit 0,x198_0 v',h'))∧GrowG h0.toks.length h' 6 (t.flatMap StepA.cs) t.length v'∧t.length ≤ b∧RS x sz p h' nest all l' (some q) u'∧Stay p h0 h'
set_option maxHeartbeats 4000000 in
theorem loopR_ok (H:Has 198 E) (hx:1 ≤ x∧x ≤ 5) {r:Nat} (hr:nest + r = 32) (D:DeeperR E x sz p nest r) {h0:AHeap} {b:Nat} (hbb:b ≤ 2000000):∀ (f:Nat) (l:List Tok) (t:List StepA) (u:Option Tok) (h:AHeap) (v:AV),
    l.length ≤ f→1 ≤ t.length→t.length + l.length + 3 * (33 - nest) ≤ b→RS x sz p h nest all l none u→GrowF h0.toks.length h 6 (t.flatMap StepA.cs) t.length v→Stay p h0 h→LoopR E x sz p h0 h nest all b v (loopP x sz (levelP x sz r) f t l u):=by
  intro f
  have stop:∀ (l:List Tok) (t:List StepA) (u:Option Tok) (h:AHeap) (v:AV),isT 4 l = false→isT 5 l = false→RS x sz p h nest all l none u→GrowF h0.toks.length h 6 (t.flatMap StepA.cs) t.length v→Stay p h0 h→LoopR E x sz p h0 h nest all b v (.ok (t,l,u)):=by
    intro l t u h v h4 h5 S G K
    have m4:=mayR_not (H.to 208) S (k:=4) (by omega) h4
    have m5:=mayR_not (H.to 208) S (k:=5) (by omega) h5
    obtain ⟨a0,a1,a2,a3,a4,bb,hb,hl⟩:=err_cell S
    simp only [errNo,Option.map_none,Option.getD_none] at hb
    refine ⟨h,v,fun F hF=>?_,G,S,K⟩
    rw [EvCode_loop,hF]
    simp [l198_0,s198_0,hb,m4,m5,r198]
  induction f with
  | zero=>
    intro l t u h v hf ht hl S G K
    have:l = []:=List.length_eq_zero_iff.1 (by omega)
    subst this
    exact stop [] t u h v rfl rfl S G K
  | succ f ih=>
    intro l t u h v hf ht hl S G K
    cases l with
    | nil=>exact stop [] t u h v rfl rfl S G K
    | cons k m=>
      simp only [List.length_cons] at hf hl
      simp only [loopP]
      split
      · rename_i hk
        obtain ⟨a0,a1,a2,a3,a4,bb,hb,hlb⟩:=err_cell S
        simp only [errNo,Option.map_none,Option.getD_none] at hb
        have one:∃ (g:AHeap) (o:Int),(if k.kind == 4 then (3:Int) else 4) = o∧RS x sz p g nest all m none u∧Stay p h g ∧
            ((o = 3∧EvCall E (.fn (.func 208) [] []) [.ref p 0,.int .i64 4] h = some (.ret (.bool true),g)) ∨
             (o = 4∧EvCall E (.fn (.func 208) [] []) [.ref p 0,.int .i64 4] h = some (.ret (.bool false),h)∧EvCall E (.fn (.func 208) [] []) [.ref p 0,.int .i64 5] h = some (.ret (.bool true),g))):=by
          cases h4:k.kind == 4 with
          | true=>
            obtain ⟨g,e,S1,K1⟩:=mayR_ok (H.to 208) S (k:=4) (by omega) (by simpa using h4)
            exact ⟨g,3,by simp,S1,K1,.inl ⟨rfl,e⟩⟩
          | false=>
            have h5:(k.kind == 5) = true:=by simpa [h4] using hk
            have m4:=mayR_not (H.to 208) S (k:=4) (by omega) h4
            obtain ⟨g,e,S1,K1⟩:=mayR_ok (H.to 208) S (k:=5) (by omega) (by simpa using h5)
            exact ⟨g,4,by simp,S1,K1,.inr ⟨rfl,m4,e⟩⟩
        obtain ⟨g,o,ho,S1,K1,hc⟩:=one
        rw [ho]
        have q:=itemR_ok (H.to 209) hx hr D S1
        have fit:=itemP_fits (x:=x) (sz:=sz) (inner:=levelP x sz r) (levelP_fits r) m u
        have G1:=G.keep K1
        have KK:=K.trans K1
        cases hi:itemP x sz (levelP x sz r) m u with
        | error d=>
          rw [hi] at q
          obtain ⟨g2,v1,t',l',u',e2,G2,hB,S2,K2⟩:=q
          simp only [bnd] at hB
          obtain ⟨hs,hsl⟩:=G2.slice (g:=g2)
          obtain ⟨ts,v2,b1,G3,K3,ht1⟩:=growG_app (bytes:=56) (G1.keep K2).g rfl (KK.trans K2) S2.rot (by omega) (by omega) hs hsl (all_flat StepA.all _)
          have S3:=S2.toks ht1
          have hs2:sliceCells (g2.toks_ ts) 6 (.vs .full 1 (StepA.cs ⟨o,-1,0,0,0,[]⟩)) = some (1,StepA.cs ⟨o,-1,0,0,0,[]⟩):=by simp [sliceCells,StepA.len]
          obtain ⟨us,v3,b2,G4,K4,ht2⟩:=growG_app (bytes:=56) G3 rfl K3 S3.rot (by omega) (by omega) hs2 (by simp [StepA.len]) (StepA.all _)
          have S4:=S3.toks ht2
          have L:=loopR_err (E:=E) (v:=v3) S4
          simp only [StepA.cs] at b2
          refine ⟨_,v3,t++t'++[⟨o,-1,0,0,0,[]⟩],l',u',fun F hF=>?_,by simpa [Nat.add_assoc] using G4,by simp only [List.length_append,List.length_cons,List.length_nil]; omega,S4,K4⟩
          rw [EvCode_loop,hF]
          generalize EvCode E (.loop k198_0 l198_0) = lp at L ⊢
          rcases hc with ⟨rfl,c1⟩ | ⟨rfl,c1,c2⟩
          · simp [-den,l198_0,s198_0,hb,c1,e2,b1,b2]
            exact L _ (by simp [s198_0])
          · simp [-den,l198_0,s198_0,hb,c1,c2,e2,b1,b2]
            exact L _ (by simp [s198_0])
        | ok w=>
          obtain ⟨t',l',u'⟩:=w
          rw [hi] at q fit
          simp only [Fits] at fit
          obtain ⟨g2,v1,e2,G2,S2,K2⟩:=q
          obtain ⟨hs,hsl⟩:=G2.slice (g:=g2)
          obtain ⟨ts,v2,b1,G3,K3,ht1⟩:=growF_app (bytes:=56) (G1.keep K2) rfl (KK.trans K2) S2.rot (by omega) ht (by omega) (by omega) hs hsl (all_flat StepA.all _)
          have S3:=S2.toks ht1
          have hs2:sliceCells (g2.toks_ ts) 6 (.vs .full 1 (StepA.cs ⟨o,-1,0,0,0,[]⟩)) = some (1,StepA.cs ⟨o,-1,0,0,0,[]⟩):=by simp [sliceCells,StepA.len]
          obtain ⟨us,v3,b2,G4,K4,ht2⟩:=growF_app (bytes:=56) G3 rfl K3 S3.rot (by omega) (by omega) (by omega) (by omega) hs2 (by simp [StepA.len]) (StepA.all _)
          have S4:=S3.toks ht2
          have L:=ih l' (t++t'++[⟨o,-1,0,0,0,[]⟩]) u' ((g2.toks_ ts).toks_ us) v3 (by omega) (by simp only [List.length_append,List.length_cons,List.length_nil]; omega) (by simp only [List.length_append,List.length_cons,List.length_nil]; omega) S4 (by simpa [Nat.add_assoc] using G4) K4
          simp only [StepA.cs] at b2
          show LoopR E x sz p h0 h nest all b v (loopP x sz (levelP x sz r) f (t++t'++[⟨o,-1,0,0,0,[]⟩]) l' u')
          cases hL:loopP x sz (levelP x sz r) f (t++t'++[⟨o,-1,0,0,0,[]⟩]) l' u' with
          | error d=>
            rw [hL] at L
            obtain ⟨h',v',tt,ll,uu,c5,c6⟩:=L
            refine ⟨h',v',tt,ll,uu,fun F hF=>?_,c6⟩
            rw [EvCode_loop,hF]
            generalize EvCode E (.loop k198_0 l198_0) = lp at c5 ⊢
            rcases hc with ⟨rfl,c1⟩ | ⟨rfl,c1,c2⟩
            · simp [-den,l198_0,s198_0,hb,c1,e2,b1,b2]
              exact c5 _ (by simp [s198_0])
            · simp [-den,l198_0,s198_0,hb,c1,c2,e2,b1,b2]
              exact c5 _ (by simp [s198_0])
          | ok z=>
            obtain ⟨tt,ll,uu⟩:=z
            rw [hL] at L
            obtain ⟨h',v',c5,c6⟩:=L
            refine ⟨h',v',fun F hF=>?_,c6⟩
            rw [EvCode_loop,hF]
            generalize EvCode E (.loop k198_0 l198_0) = lp at c5 ⊢
            rcases hc with ⟨rfl,c1⟩ | ⟨rfl,c1,c2⟩
            · simp [-den,l198_0,s198_0,hb,c1,e2,b1,b2]
              exact c5 _ (by simp [s198_0])
            · simp [-den,l198_0,s198_0,hb,c1,c2,e2,b1,b2]
              exact c5 _ (by simp [s198_0])
      · rename_i hk
        have h4:isT 4 (k :: m) = false:=by
          cases h:isT 4 (k :: m)
          · rfl
          · exact absurd (by simp [show (k.kind == 4) = true from h]) hk
        have h5:isT 5 (k :: m) = false:=by
          cases h:isT 5 (k :: m)
          · rfl
          · exact absurd (by simp [show (k.kind == 5) = true from h]) hk
        exact stop _ t u h v h4 h5 S G K
end Go.Pv
/- The reference's parser: the tree of tokens, and of a text. Conditions: the functions' codes; theorems. -/
namespace Go.Pv
variable {E:Env} {x sz:Int} {p nest:Nat} {h:AHeap} {all l:List Tok} {e:Option PErr} {u:Option Tok}
set_option maxHeartbeats 2000000 in
theorem mainR_ok (H:Has 198 E) (hx:1 ≤ x∧x ≤ 5) {r:Nat} (hr:nest + r = 32) (D:DeeperR E x sz p nest r) (S:RS x sz p h nest all l none u):
  TellsR E x sz p h nest all l 198 [.ref p 0] (mainP x sz (levelP x sz r) l u):=by
 have sm:=S.sm
 have sl:=S.len
 have start_:∃ g b l1,isT 5 l = b∧(if isT 5 l then l.tail else l) = l1∧l1.length + (if b then 1 else 0) = l.length∧EvCall E (.fn (.func 208) [] []) [.ref p 0,.int .i64 5] h = some (.ret (.bool b),g)∧RS x sz p g nest all l1 none u∧Stay p h g:=by
  cases h5:isT 5 l with
  | false=>exact ⟨h,false,l,rfl,by simp,by simp,mayR_not (H.to 208) S (by omega) h5,S,Stay.refl _ _⟩
  | true=>
   cases l with
   | nil=>cases h5
   | cons k m=>
    obtain ⟨g,e,S1,K1⟩:=mayR_ok (H.to 208) S (k:=5) (by omega) (by simpa [isT] using h5)
    exact ⟨g,true,m,rfl,by simp,by simp,e,S1,K1⟩
 obtain ⟨g,b,l1,h5,hl1,hll,e1,S1,K1⟩:=start_
 have q:=itemR_ok (H.to 209) hx hr D S1
 have fit:=itemP_fits (x:=x) (sz:=sz) (inner:=levelP x sz r) (levelP_fits r) l1 u
 unfold mainP
 rw [hl1,h5]
 have hs2:∀ g:AHeap,sliceCells g 6 (.vs .full 1 (StepA.cs ⟨5,-1,0,0,0,[]⟩)) = some (1,StepA.cs ⟨5,-1,0,0,0,[]⟩):=by intro g; simp [sliceCells,StepA.len]
 cases hi:itemP x sz (levelP x sz r) l1 u with
 | error d=>
  rw [hi] at q
  obtain ⟨g2,v1,t,l',u',e2,G2,hB,S2,K2⟩:=q
  have KK:=K1.trans K2
  have G2':=G2.low (k1:=h.toks.length) K1.tlen
  simp only [bnd] at hB
  cases b with
  | false=>
   have L:=loopR_err (E:=E) (v:=v1) S2
   refine ⟨g2,v1,t,l',u',?_,G2',by simp only [bnd]; simp at hll; omega,S2,KK⟩
   rw [EvCall_open H.c198 rfl,EvFn_eq]
   simp [f198,start,e1,e2]
   rw [L _ (by simp [s198_0])]
   simp [x198_0]
  | true=>
   obtain ⟨ts,v2,a1,G3,K3,ht1⟩:=growG_app (bytes:=56) G2' rfl KK S2.rot (by omega) (by omega) (hs2 g2) (by simp [StepA.len]) (StepA.all _)
   have S3:=S2.toks ht1
   have L:=loopR_err (E:=E) (v:=v2) S3
   simp only [StepA.cs] at a1
   refine ⟨_,v2,t++[⟨5,-1,0,0,0,[]⟩],l',u',?_,by simpa using G3,by simp only [bnd,List.length_append,List.length_cons,List.length_nil]; simp at hll; omega,S3,K3⟩
   rw [EvCall_open H.c198 rfl,EvFn_eq]
   simp [-den,f198,start,e1,e2,a1]
   rw [L _ (by simp [s198_0])]
   simp [x198_0]
 | ok w=>
  obtain ⟨t,l',u'⟩:=w
  rw [hi] at q fit
  simp only [Fits] at fit
  obtain ⟨g2,v1,e2,G2,S2,K2⟩:=q
  have KK:=K1.trans K2
  have G2':=G2.low (k1:=h.toks.length) K1.tlen
  have mid:∃ (hh:AHeap) (vv:AV),GrowF h.toks.length hh 6 ((if b then t++[⟨5,-1,0,0,0,[]⟩] else t).flatMap StepA.cs) (if b then t++[⟨5,-1,0,0,0,[]⟩] else t).length vv∧RS x sz p hh nest all l' none u'∧Stay p h hh ∧
    ((b = false∧hh = g2∧vv = v1)∨(b = true∧∃ ts,hh = g2.toks_ ts∧appendA 6 56 g2 (den v1) (.vs .full 1 (StepA.cs ⟨5,-1,0,0,0,[]⟩)) = some (vv,g2.toks_ ts))):=by
   cases b with
   | false=>exact ⟨g2,v1,G2',S2,KK,.inl ⟨rfl,rfl,rfl⟩⟩
   | true=>
    obtain ⟨ts,v2,a1,G3,K3,ht1⟩:=growF_app (bytes:=56) G2' rfl KK S2.rot (by omega) fit.2 (by omega) (by omega) (hs2 g2) (by simp [StepA.len]) (StepA.all _)
    exact ⟨g2.toks_ ts,v2,by simpa using G3,S2.toks ht1,K3,.inr ⟨rfl,ts,rfl,a1⟩⟩
  obtain ⟨hh,vv,G3,S3,K3,hm⟩:=mid
  simp only [StepA.cs] at hm
  have hlen:(if b then t++[(⟨5,-1,0,0,0,[]⟩:StepA)] else t).length = t.length + (if b then 1 else 0):=by cases b <;> simp
  have L:=loopR_ok H hx hr D (all:=all) (h0:=h) (b:=bnd l nest) (by simp only [bnd]; omega) l'.length l' _ u' hh vv (Nat.le_refl _) (by rw [hlen]; omega) (by rw [hlen]; simp only [bnd]; omega) S3 G3 K3
  simp only
  cases hL:loopP x sz (levelP x sz r) l'.length (if b then t++[⟨5,-1,0,0,0,[]⟩] else t) l' u' with
  | error d=>
   rw [hL] at L
   obtain ⟨h',v',tt,ll,uu,b1,b2⟩:=L
   refine ⟨h',v',tt,ll,uu,?_,b2⟩
   rw [EvCall_open H.c198 rfl,EvFn_eq]
   rcases hm with ⟨rfl,rfl,rfl⟩ | ⟨rfl,ts,rfl,hm⟩
   ·simp [f198,start,e1,e2]
    rw [b1 _ (by simp [s198_0])]
    simp [x198_0]
   ·simp [-den,f198,start,e1,e2,hm]
    rw [b1 _ (by simp [s198_0])]
    simp [x198_0]
  | ok z=>
   obtain ⟨tt,ll,uu⟩:=z
   rw [hL] at L
   obtain ⟨h',v',b1,b2⟩:=L
   refine ⟨h',v',?_,b2⟩
   rw [EvCall_open H.c198 rfl,EvFn_eq]
   rcases hm with ⟨rfl,rfl,rfl⟩ | ⟨rfl,ts,rfl,hm⟩
   ·simp [f198,start,e1,e2]
    rw [b1 _ (by simp [s198_0])]
    simp [r198]
   ·simp [-den,f198,start,e1,e2,hm]
    rw [b1 _ (by simp [s198_0])]
    simp [r198]
theorem mainR_any (H:Has 198 E) (hx:1 ≤ x∧x ≤ 5):∀ (r nest:Nat),nest + r = 32→∀ h all l u,RS x sz p h nest all l none u→TellsR E x sz p h nest all l 198 [.ref p 0] (mainP x sz (levelP x sz r) l u)
 | 0,nest,hr=>fun h all l u S=>mainR_ok H hx hr (fun r' h0=>by cases h0) S
 | r + 1,nest,hr=>fun h all l u S=>mainR_ok H hx hr (fun r' h0 g all l u S=>by
   have:r' = r:=by omega
   subst this
   exact mainR_any H hx r' (nest + 1) (by omega) g all l u S) S
def heapR (x sz:Int) (l:List Tok):AHeap:=(heap0.push (.cells [.nils,.int .i64 0,.int .i64 0,.int .i64 0])).push (refB_ x sz 0 0 (toksV l) none none)
theorem rs_first {l:List Tok} (hl:l.length < 900000):RS x sz 1 (heapR x sz l) 0 l l none none:=
 ⟨⟨0,Nat.zero_le _,rfl,by simp [heapR]⟩,rfl,Nat.le_refl _,(fun q h=>by cases h),hl⟩
theorem toks_len (_g:AHeap) (l:List Tok):∃ v,toksV l = v∧((v = .nils∧l = [])∨∃ cs,v = .vs .shared l.length cs):=by
 cases l with
 | nil=>exact ⟨_,rfl,.inl ⟨rfl,rfl⟩⟩
 | cons t l=>exact ⟨_,rfl,.inr ⟨_,rfl⟩⟩
set_option maxHeartbeats 2000000 in
theorem treeR_eq (H:Has 177 E) (hx:isN x = true) (l:List Tok) (hl:l.length < 900000) {lv:AV} (hlv:shut 0 0 lv = some (toksV l)):
  EvClosed E (.fn (.func 177) [] []) [.int .i64 x,lv,.int .i64 sz] = some (.agg (treeP x sz l).cs):=by
 rw [EvClosed_eq H.c177 rfl (vs:=[.int .i64 x,toksV l,.int .i64 sz]) (by simp [hlv]),EvFn_eq]
 have hx':1 ≤ x∧x ≤ 5:=by simpa [isN] using hx
 have d1:decide (x < 1) = false:=decide_eq_false (by omega)
 have d2:decide (5 < x) = false:=decide_eq_false (by omega)
 have q:=mainR_any (H.to 198) hx' 32 0 (by omega) _ l l none (rs_first (x:=x) (sz:=sz) hl)
 have hcl:=toksV_cells l
 unfold AV.cells? at hcl
 have hhp:heapR x sz l = (heap0.push (.cells [.nils,.int .i64 0,.int .i64 0,.int .i64 0])).push (.cells [.int .i64 x,.int .i64 0,.int .i64 sz,.int .i64 0,toksV l,.nils,.int .i64 0,.int .i64 0,.int .i64 0,.int .i64 0,.int .i64 0,.bool false]):=rfl
 have hb0:(heapR x sz l).bl 0 = some (.cells [.nils,.int .i64 0,.int .i64 0,.int .i64 0]):=by simp [heapR]
 have hl0:0 < (heapR x sz l).blks.length:=by simp [heapR]
 obtain ⟨vt,hvt,hvc⟩:=toks_len heap0 l
 unfold treeP
 cases hm:mainP x sz (levelP x sz 32) l none with
 | error d=>
  rw [hm] at q
  obtain ⟨h',v,t,l',u',e1,G,_,S,K⟩:=q
  have hb:h'.bl 0 = some (.cells [.nils,.int .i64 0,.int .i64 0,.int .i64 0]):=(K.bl 0 (by omega) hl0).trans hb0
  have hro:h'.ro = 0:=K.ro
  have hq:=S.ne d rfl
  obtain ⟨⟨i,_,_,h3⟩,_⟩:=S
  simp only [refB_,errNo,errAt,Option.map_some,Option.getD_some] at h3
  have hqb:(d.1 == 0) = false:=by simpa using hq
  rw [hhp] at e1
  simp [f177,start,d1,d2,hcl,e1,h3,hq,hqb,hb,hro,Psd.cs,stepsV]
 | ok w=>
  obtain ⟨t,l',u'⟩:=w
  rw [hm] at q
  obtain ⟨h',v,e1,G,S,K⟩:=q
  have hb:h'.bl 0 = some (.cells [.nils,.int .i64 0,.int .i64 0,.int .i64 0]):=(K.bl 0 (by omega) hl0).trans hb0
  have hro:h'.ro = 0:=K.ro
  have hv:=growF_shut G
  have hvcell:=G.cell
  have hvs:=G.cells
  unfold AV.cells? at hvs
  rw [hhp] at e1
  obtain ⟨i,i1,i2,i3⟩:=S.ex
  have i3':=i3
  simp only [refB_,errNo,errAt,Option.map_none,Option.getD_none] at i3'
  cases l' with
  | cons k m=>
   obtain ⟨g,f1,S2,K2⟩:=failR_ok (H.to 199) S (c:=14) (by omega)
   have hlt:i < l.length:=by
    rcases Nat.lt_or_ge i l.length with q | q
    ·exact q
    ·rw [List.drop_of_length_le q] at i2
     cases i2
   have hlt':decide ((i:Int) < (l.length:Int)) = true:=decide_eq_true (by omega)
   have hbg:g.bl 0 = some (.cells [.nils,.int .i64 0,.int .i64 0,.int .i64 0]):=(K2.bl 0 (by omega) (blk_lt hb)).trans hb
   have hrog:g.ro = 0:=S2.ro
   obtain ⟨⟨j,_,_,j3⟩,_⟩:=S2
   simp only [refB_,errNo,errAt,Option.map_some,Option.getD_some,atT] at j3
   rcases hvc with ⟨_,rfl⟩ | ⟨cs,rfl⟩
   ·simp at hlt
   ·rw [hvt] at e1 i3' j3 hcl
    simp [f177,start,d1,d2,hvt,e1,i3',hlt,f1,j3,hbg,hrog,Psd.cs,stepsV]
  | nil=>
   have hge:¬ i < l.length:=by
    intro q
    rw [List.drop_eq_getElem_cons q] at i2
    cases i2
   have hge':decide ((i:Int) < (l.length:Int)) = false:=decide_eq_false (by omega)
   cases u' with
   | none=>
    simp only [unkAt,unkLen,Option.isSome_none] at i3'
    rcases hvc with ⟨rfl,rfl⟩ | ⟨cs,rfl⟩
    ·rw [hvt] at e1 i3' hcl
     have hi0:i = 0:=by simpa using i1
     subst hi0
     simp [f177,start,d1,d2,hvt,e1,i3',hb,hro,hvcell,hvs,hv,Psd.cs]
    ·rw [hvt] at e1 i3' hcl
     simp [f177,start,d1,d2,hvt,e1,i3',hge,hb,hro,hvcell,hvs,hv,Psd.cs]
   | some tk=>
    simp only [unkAt,unkLen,Option.isSome_some] at i3'
    rcases hvc with ⟨rfl,rfl⟩ | ⟨cs,rfl⟩
    ·rw [hvt] at e1 i3' hcl
     have hi0:i = 0:=by simpa using i1
     subst hi0
     simp [f177,start,d1,d2,hvt,e1,i3',hb,hro,Psd.cs,stepsV]
    ·rw [hvt] at e1 i3' hcl
     simp [f177,start,d1,d2,hvt,e1,i3',hge,hb,hro,Psd.cs,stepsV]
end Go.Pv
