/- A part of the proof: functions of the program in the evaluator's code, and what they come to. Conditions: none; definitions and theorems that the statement's proof uses. -/
import Derived.Test.YteiaohbhlapklaaGreatDoorSettPcPrint5
import Derived.Test.YteiaohbhlapklaaGreatDoorSettPcParse7
/- What the reference prints. Conditions: the functions' codes; theorems. -/
namespace Go.Pv
variable {E:Env}
def toldD (x p a:Int):Bool:=toldB (x - 1).toNat atomsT prefsT (symD x p a) p a
theorem told171_eq (H:Has 171 E) {x:Int} (hn:isN x = true) {p a:Int} (hp:-1 ≤ p) (hp2:p < prefsT.length) (ha0:0 ≤ a) (ha:a < atomsT.length):EvClosed E (.fn (.func 171) [] []) [.int .i64 x,.int .i64 p,.int .i64 a] = some (.bool (toldD x p a)):=by
 rw [EvClosed_eq H.c171 rfl (vs:=[.int .i64 x,.int .i64 p,.int .i64 a]) (by simp),EvFn_eq]
 have hx:1 ≤ x∧x ≤ 5:=by simpa [isN] using hn
 obtain ⟨n,rfl⟩:∃ n:Nat,x = (n:Int) + 1:=⟨(x - 1).toNat,by omega⟩
 obtain ⟨i,rfl⟩:∃ i:Nat,a = i:=⟨a.toNat,by omega⟩
 have ht:=refTable_eq (H.to 51)
 have h5:=refTold_eq (H.to 52) refB_ok refB_short (n:=n) (by omega) hp (p:=p) hp2 (i:=i) (by show i < atomsT.length; omega)
 have e:toldD ((n:Int) + 1) p i = toldB n refB.L refB.Q (symText n refB.L refB.Q p i) p i:=by
  unfold toldD symD
  rw [show ((n:Int) + 1 - 1).toNat = n by omega]
  rfl
 have d1:decide ((1:Int) ≤ (n:Int) + 1) = true:=decide_eq_true (by omega)
 have d2:decide ((n:Int) + 1 ≤ 5) = true:=decide_eq_true (by omega)
 have d3:(n:Int) + 1 ≤ 5:=by omega
 rw [e]
 generalize toldB n refB.L refB.Q (symText n refB.L refB.Q p i) p i = b at *
 generalize refB.V = V at *
 simp [f171,start,EvCall_closed H.c51 rfl,EvCall_closed H.c52 rfl,ht,h5,d1,d3]
def badD (x:Int) (s:StepA):Option Int:=
 if s.op == 2 && !toldD x s.pfx s.atom then some 16 else if (s.op == 6 || s.op == 7) && !plain x s.text then some 17 else none
def missD (x:Int):List StepA→Nat→Option (Nat × Int)
 | [],_=>none
 | s :: r,i=>match badD x s with
  | some e=>some (i,e)
  | none=>missD x r (i + 1)
def prtV (s:List UInt8) (i e:Int):List AV:=[.str s,.int .i64 i,.int .i64 e]
def outH (m:Option (Nat × Int)):List AV:=match m with
 | none=>prtV [] 0 0
 | some (i,e)=>prtV [] i e
theorem print_step (H:Has 162 E) {x:Int} (hn:isN x = true) {s:StepA} (hs:StepOk s):
  (s.op == 2→EvClosed E (.fn (.func 171) [] []) [.int .i64 x,.int .i64 s.pfx,.int .i64 s.atom] = some (.bool (toldD x s.pfx s.atom)))∧EvClosed E (.fn (.func 172) [] []) [.int .i64 x,.str s.text] = some (.bool (plain x s.text)):=by
 cases hs with
 | num n h1=>exact ⟨fun h=>by simp at h,refPlain_eq (H.to 172) x _ (by simp)⟩
 | sym p a n a0 a1 p0 p1 n0 n1 hm=>exact ⟨fun _=>told171_eq (H.to 171) hn p0 p1 a0 a1,refPlain_eq (H.to 172) x _ (by simp)⟩
 | op o ho=>exact ⟨fun h=>by rcases ho with rfl | rfl | rfl <;> simp at h,refPlain_eq (H.to 172) x _ (by simp)⟩
 | text o s ho h1 h2=>exact ⟨fun h=>by rcases ho with rfl | rfl <;> simp at h,refPlain_eq (H.to 172) x _ h2⟩
set_option maxHeartbeats 4000000 in
theorem print_loop (H:Has 162 E) {x:Int} (hn:isN x = true) {own:Own} {t:List StepA} (hok:∀ s ∈ t,StepOk s) (hl:t.length < 1000000):∀ (m i:Nat),i + m = t.length→∀ (h:AHeap),h.ro = 0→h.bl 0 = some (.cells (prtV [] 0 0)) →
  ∃ h':AHeap,(∀ F,mask k162_0 F = s162_0 (.int .i64 x) (.vs own t.length (t.flatMap StepA.cs)) (.ref 0 0) (.int .i64 i) →
   EvCode E (.loop k162_0 l162_0) F h = some (match missD x (t.drop i) i with | none=>(.exit 0,x162_0 (.int .i64 x) (.vs own t.length (t.flatMap StepA.cs)) (.ref 0 0),h') | some _=>(.ret,r162 (.ref 0 0),h')))∧h'.bl 0 = some (.cells (outH (missD x (t.drop i) i)))∧h'.ro = 0
 | 0,i,hi,h,hro,hb=>by
  have:i = t.length:=by omega
  subst this
  rw [List.drop_length]
  simp only [missD]
  refine ⟨h,fun F hF=>?_,hb,hro⟩
  rw [EvCode_loop,hF]
  simp [l162_0,s162_0,x162_0]
 | m + 1,i,hi,h,hro,hb=>by
  have hlt:i < t.length:=by omega
  rw [List.drop_eq_getElem_cons hlt]
  have hsok:=hok t[i] (List.getElem_mem hlt)
  obtain ⟨ht1,ht2⟩:=print_step H hn hsok
  have e6:((t.flatMap StepA.cs).drop (i * 6)).take 6 = t[i].cs:=fm_el StepA.len hlt
  have ll:(t.flatMap StepA.cs).length = t.length * 6:=fm_len StepA.len t
  have hd:decide ((i:Int) < (t.length:Int)) = true:=decide_eq_true (by omega)
  have h6:6 ≤ t.length * 6 - i * 6:=by omega
  have h60:i * 6 < t.length * 6:=by omega
  have w1:IntKind.i64.wrap ((i:Int) + 1) = (i:Int) + 1:=w64
  have w2:IntKind.i64.wrap (i:Int) = (i:Int):=w64
  have h0:0 < t.length * 6 - i * 6:=by omega
  have n0:=blk_ne hb
  have hb2:(h.push (.cells t[i].cs)).bl 0 = some (.cells (prtV [] 0 0)):=by simp [bl_push,n0,hb]
  obtain ⟨g,hg,hgb,hgr⟩:=print_loop H hn (own:=own) hok hl m (i + 1) (by omega) (h.push (.cells t[i].cs)) hro hb2
  have cn:((i + 1:Nat):Int) = (i:Int) + 1:=by simp
  rw [cn] at hg
  simp only [missD]
  generalize t[i] = s at *
  generalize t.flatMap StepA.cs = ca at *
  generalize missD x (t.drop (i + 1)) (i + 1) = md at *
  cases hbd:badD x s with
  | none=>
   simp only
   refine ⟨g,fun F hF=>?_,hgb,hgr⟩
   rw [EvCode_loop,hF]
   generalize EvCode E (.loop k162_0 l162_0) = lp at hg ⊢
   cases hsok with
   | num n h1=>
    simp only [StepA.cs] at e6 hg
    simp [l162_0,s162_0,hlt,ll,h6,h60,e6,w1,push_setk,hro]
    refine hg _ ?_
    simp [s162_0]
   | sym p a n a0 a1 p0 p1 n0 n1 hm=>
    have ht1:=ht1 (by simp)
    simp only [StepA.cs] at e6 hg
    have hb3:toldD x p a = true:=by simpa [badD] using hbd
    rw [hb3] at ht1
    simp [l162_0,s162_0,hlt,ll,h6,h60,e6,w1,push_setk,hro,EvCall_closed H.c171 rfl,ht1]
    refine hg _ ?_
    simp [s162_0]
   | op o ho=>
    simp only [StepA.cs] at e6 hg
    rcases ho with rfl | rfl | rfl
    all_goals
     simp [l162_0,s162_0,hlt,ll,h6,h60,e6,w1,push_setk,hro]
     refine hg _ ?_
     simp [s162_0]
   | text o w ho h1 h2=>
    simp only [StepA.cs] at e6 hg
    rcases ho with rfl | rfl
    all_goals
     have hb3:plain x w = true:=by simpa [badD] using hbd
     rw [hb3] at ht2
     simp [l162_0,s162_0,hlt,ll,h6,h60,e6,w1,push_setk,hro,EvCall_closed H.c172 rfl,ht2]
     refine hg _ ?_
     simp [s162_0]
  | some e=>
   simp only
   refine ⟨(h.push (.cells s.cs)).setBlk 0 (.cells (prtV [] i e)),fun F hF=>?_,by simp [bl_set,bl_push,n0,hb,outH],by simp [hro]⟩
   rw [EvCode_loop,hF]
   generalize EvCode E (.loop k162_0 l162_0) = lp at hg ⊢
   cases hsok with
   | num n h1=>simp [badD] at hbd
   | sym p a n a0 a1 p0 p1 n0 n1 hm=>
    have ht1:=ht1 (by simp)
    simp only [StepA.cs] at e6 hb2 ⊢
    cases hb3:toldD x p a with
    | true=>simp [badD,hb3] at hbd
    | false=>
     simp [badD,hb3] at hbd
     subst hbd
     rw [hb3] at ht1
     simp only [prtV] at hb hb2
     simp [l162_0,s162_0,hlt,ll,h6,h60,e6,push_setk,hro,EvCall_closed H.c171 rfl,ht1,r162,prtV,hb2,bl_push]
   | op o ho=>rcases ho with rfl | rfl | rfl <;> simp [badD] at hbd
   | text o w ho h1 h2=>
    simp only [StepA.cs] at e6 hb2 ⊢
    cases hb3:plain x w with
    | true=>rcases ho with rfl | rfl <;> simp [badD,hb3] at hbd
    | false=>
     rw [hb3] at ht2
     simp only [prtV] at hb hb2
     rcases ho with rfl | rfl
     all_goals
      simp [badD,hb3] at hbd
      subst hbd
      simp [l162_0,s162_0,hlt,ll,h6,h60,e6,push_setk,hro,EvCall_closed H.c172 rfl,ht2,r162,prtV,hb2,bl_push]
end Go.Pv
/- Trees that are made of numbers. Conditions: the functions' codes; theorems. -/
namespace Go.Pv
variable {E:Env} {h:AHeap} {p:Nat}
theorem step_store {h g:AHeap} {b:Nat} (hb:h.blks.length ≤ b) (K:Stay p h g) (y:ABlk):Stay p h (g.setBlk b y):=K.setNew hb
theorem RW.set {L l:List Int} (S:RW h p L l) {b:Nat} (hb:b ≠ p) (y:ABlk):RW (h.setBlk b y) p L l:=by
 obtain ⟨⟨i,v,h1,h2,h3,h4⟩,h5,h6,h7⟩:=S
 exact ⟨⟨i,v,h1,h2,h3,by rw [bl_set,if_neg hb]; exact h4⟩,h5,h6,h7⟩
theorem metricT_at {a:Nat} (ha:a < atomsT.length):metricT a = atomsT[a].metric:=by
 simp [metricT,ha]
set_option maxHeartbeats 4000000 in
theorem symM_ok (H:Has 191 E) {L l:List Int} (S:RW h p L l):∃ h' q a n,EvCall E (.fn (.func 191) [] []) [.ref p 0] h = some (.ret (.agg (StepA.cs ⟨2,q,a,n,0,[]⟩)),h')∧symI l = (.sym q a n,(symI l).2)∧RW h' p L (symI l).2∧Stay p h h':=by
 have ht:=refTable_eq (H.to 51)
 have hA:atomsT.length < 1000000:=by decide
 have hA0:0 < atomsT.length:=by decide
 have hP:prefsT.length < 1000000:=by decide
 have hP0:0 < prefsT.length:=by decide
 simp only [Tb.V,Tb.A,Tb.P,refB] at ht
 have hp:=S.lt
 have S1:=(S.push (.cells [.int .i64 0,.int .i64 0,.int .i64 0,.int .i64 0,.int .i64 0,.str []])).push (.cells [.vs .shared atomsT.length (atomsT.flatMap (acs .full)),.vs .full prefsT.length (prefsT.flatMap PrefR.cells)])
 have K1:=(Stay.push p h (.cells [.int .i64 0,.int .i64 0,.int .i64 0,.int .i64 0,.int .i64 0,.str []])).trans (Stay.push p _ (.cells [.vs .shared atomsT.length (atomsT.flatMap (acs .full)),.vs .full prefsT.length (prefsT.flatMap PrefR.cells)]))
 obtain ⟨g1,e1,S2,K2⟩:=nextR_ok (H.to 190) S1 (n:=atomsT.length) (by omega) (by omega)
 have hr:=nextI_range (n:=atomsT.length) (by omega) l
 obtain ⟨k,hk⟩:∃ k:Nat,(nextI atomsT.length l).1 = k:=⟨(nextI atomsT.length l).1.toNat,by omega⟩
 have hkl:k < atomsT.length:=by omega
 rw [hk] at e1
 have b1r:g1.bl h.blks.length = some (.cells [.int .i64 0,.int .i64 0,.int .i64 0,.int .i64 0,.int .i64 0,.str []]):=(K2.bl _ (by omega) (by simp; omega)).trans (by simp)
 have b1t:g1.bl (h.blks.length + 1) = some (.cells [.vs .shared atomsT.length (atomsT.flatMap (acs .full)),.vs .full prefsT.length (prefsT.flatMap PrefR.cells)]):=(K2.bl _ (by omega) (by simp)).trans (by simp)
 have lt1:h.blks.length + 1 < g1.blks.length:=blk_lt b1t
 have KK1:=K1.trans K2
 have S3:=S2.push (.cells (StepA.cs ⟨2,-1,k,1,0,[]⟩))
 have K3:=KK1.trans (Stay.push p g1 (.cells (StepA.cs ⟨2,-1,k,1,0,[]⟩)))
 have ro:=S.ro
 have ro1:=S2.ro
 have nsb:¬ g1.blks.length = p:=by omega
 have nrb:¬ h.blks.length = p:=by omega
 have nsr:¬ g1.blks.length = h.blks.length:=by omega
 have nrs:¬ h.blks.length = g1.blks.length:=by omega
 have nst:¬ h.blks.length + 1 = g1.blks.length:=by omega
 -- the table's part
 have hm0:((atomsT.flatMap (acs .full)).drop (k * 12 + 5)).take 1 = [.bool (metricT k)]:=by
  rw [metricT_at hkl,fm_at (acs_len .full) hkl (by omega)]
  rfl
 have hlA:(atomsT.flatMap (acs .full)).length = atomsT.length * 12:=fm_len (acs_len .full) _
 have hx1:k * 12 < atomsT.length * 12:=by omega
 have hx2:5 < atomsT.length * 12 - k * 12:=by omega
 have hx3:1 ≤ atomsT.length * 12 - (k * 12 + 5):=by omega
 have hx4:k * 12 + 5 + 1 ≤ atomsT.length * 12:=by omega
 have fin:∀ (g:AHeap) (q:Int) (l':List Int),RW g p L l'→Stay p h g→g.bl g1.blks.length = some (.cells (StepA.cs ⟨2,q,k,1,0,[]⟩))→g.bl h.blks.length = some (.cells [.int .i64 0,.int .i64 0,.int .i64 0,.int .i64 0,.int .i64 0,.str []]) →
   (∀ (g':AHeap) (d:Int),EvCall E (.fn (.func 190) [] []) [.ref p 0,.int .i64 3] g = some (.ret (.int .i64 d),g')→(d == 0) = false→g'.bl g1.blks.length = some (.cells (StepA.cs ⟨2,q,k,1,0,[]⟩))→g'.bl h.blks.length = some (.cells [.int .i64 0,.int .i64 0,.int .i64 0,.int .i64 0,.int .i64 0,.str []])→g'.ro = 0 →
    EvCall E (.fn (.func 191) [] []) [.ref p 0] h = some (.ret (.agg (StepA.cs ⟨2,q,k,1,0,[]⟩)),g'.setBlk h.blks.length (.cells (StepA.cs ⟨2,q,k,1,0,[]⟩)))) →
   (∀ (g' g'':AHeap) (v:Int),EvCall E (.fn (.func 190) [] []) [.ref p 0,.int .i64 3] g = some (.ret (.int .i64 0),g')→EvCall E (.fn (.func 190) [] []) [.ref p 0,.int .i64 7] g' = some (.ret (.int .i64 v),g'')→IntKind.i64.wrap (v - 3) = v - 3→g''.bl g1.blks.length = some (.cells (StepA.cs ⟨2,q,k,1,0,[]⟩))→g''.bl h.blks.length = some (.cells [.int .i64 0,.int .i64 0,.int .i64 0,.int .i64 0,.int .i64 0,.str []])→g''.ro = 0 →
    EvCall E (.fn (.func 191) [] []) [.ref p 0] h = some (.ret (.agg (StepA.cs ⟨2,q,k,v - 3,0,[]⟩)),(g''.setBlk g1.blks.length (.cells (StepA.cs ⟨2,q,k,v - 3,0,[]⟩))).setBlk h.blks.length (.cells (StepA.cs ⟨2,q,k,v - 3,0,[]⟩)))) →
   (symI l = (.sym q k (if (nextI 3 l').1 == 0 then (nextI 7 (nextI 3 l').2).1 - 3 else 1),if (nextI 3 l').1 == 0 then (nextI 7 (nextI 3 l').2).2 else (nextI 3 l').2)) →
   ∃ h' q a n,EvCall E (.fn (.func 191) [] []) [.ref p 0] h = some (.ret (.agg (StepA.cs ⟨2,q,a,n,0,[]⟩)),h')∧symI l = (.sym q a n,(symI l).2)∧RW h' p L (symI l).2∧Stay p h h':=by
  intro g q l' Sg Kg bs br runA runB hsym
  obtain ⟨g6,e6,S6,K6⟩:=nextR_ok (H.to 190) Sg (n:=3) (by omega) (by omega)
  have b6s:=(K6.bl _ nsb (blk_lt bs)).trans bs
  have b6r:=(K6.bl _ nrb (blk_lt br)).trans br
  cases hd:(nextI 3 l').1 == 0 with
  | false=>
   rw [hd] at hsym
   simp only [Bool.false_eq_true,if_false] at hsym
   refine ⟨_,q,k,1,runA g6 _ e6 hd b6s b6r S6.ro,by rw [hsym],?_,?_⟩
   ·rw [hsym]
    exact S6.set nrb _
   ·exact step_store (Nat.le_refl _) (Kg.trans K6) _
  | true=>
   rw [hd] at hsym
   simp only [if_true] at hsym
   have hd0:(nextI 3 l').1 = 0:=by simpa using hd
   rw [hd0] at e6
   obtain ⟨g7,e7,S7,K7⟩:=nextR_ok (H.to 190) S6 (n:=7) (by omega) (by omega)
   have hr7:=nextI_range (n:=7) (by omega) (nextI 3 l').2
   have b7s:=(K7.bl _ nsb (blk_lt b6s)).trans b6s
   have b7r:=(K7.bl _ nrb (blk_lt b6r)).trans b6r
   refine ⟨_,q,k,_,runB g6 g7 _ e6 e7 w64 b7s b7r S7.ro,by rw [hsym],?_,?_⟩
   ·rw [hsym]
    exact (S7.set nsb _).set nrb _
   ·exact step_store (Nat.le_refl _) (step_store (by omega) ((Kg.trans K6).trans K7) _) _
 have b3s:(g1.push (.cells (StepA.cs ⟨2,-1,k,1,0,[]⟩))).bl g1.blks.length = some (.cells (StepA.cs ⟨2,-1,k,1,0,[]⟩)):=by simp
 have b3r:(g1.push (.cells (StepA.cs ⟨2,-1,k,1,0,[]⟩))).bl h.blks.length = some (.cells [.int .i64 0,.int .i64 0,.int .i64 0,.int .i64 0,.int .i64 0,.str []]):=by simp [nrs,b1r]
 have b3t:(g1.push (.cells (StepA.cs ⟨2,-1,k,1,0,[]⟩))).bl (h.blks.length + 1) = _:=(by simp [nst]:_ = g1.bl (h.blks.length + 1)).trans b1t
 cases hm:metricT k with
 | false=>
  rw [hm] at hm0
  refine fin _ (-1) _ S3 K3 b3s b3r ?_ ?_ (by simp only [symI,hk,hm,Bool.false_and,Bool.false_eq_true,if_false]; split <;> rfl)
  ·intro g' d e3 hd bs br rog
   rw [EvCall_open H.c191 rfl,EvFn_eq]
   generalize atomsT.flatMap (acs .full) = cA at *
   simp only [StepA.cs] at *
   simp [f191,start,EvCall_closed H.c51 rfl,ht,push_setk,ro,e1,b1t,nst,ro1,hlA,hkl,hx1,hx2,hx3,hm0,e3,hd,bs,br,rog]
  ·intro g' g'' v e3 e7 hw bs br rog
   rw [EvCall_open H.c191 rfl,EvFn_eq]
   generalize atomsT.flatMap (acs .full) = cA at *
   simp only [StepA.cs] at *
   simp [f191,start,EvCall_closed H.c51 rfl,ht,push_setk,ro,e1,b1t,nst,nsr,ro1,hlA,hkl,hx1,hx2,hx3,hm0,e3,e7,hw,bs,br,rog]
 | true=>
  rw [hm] at hm0
  obtain ⟨g4,e4,S4,K4⟩:=nextR_ok (H.to 190) S3 (n:=2) (by omega) (by omega)
  have b4s:=(K4.bl _ nsb (blk_lt b3s)).trans b3s
  have b4r:=(K4.bl _ nrb (blk_lt b3r)).trans b3r
  have b4t:=(K4.bl _ (by omega) (blk_lt b3t)).trans b3t
  have KK4:=K3.trans K4
  cases hc:(nextI 2 (nextI atomsT.length l).2).1 == 0 with
  | false=>
   refine fin g4 (-1) _ S4 KK4 b4s b4r ?_ ?_ (by simp only [symI,hk,hm,hc,Bool.and_false,Bool.false_eq_true,if_false,if_true]; split <;> rfl)
   ·intro g' d e3 hd bs br rog
    rw [EvCall_open H.c191 rfl,EvFn_eq]
    generalize atomsT.flatMap (acs .full) = cA at *
    simp only [StepA.cs] at *
    simp [f191,start,EvCall_closed H.c51 rfl,ht,push_setk,ro,e1,b1t,nst,ro1,hlA,hkl,hx1,hx2,hx3,hm0,e4,hc,e3,hd,bs,br,rog]
   ·intro g' g'' v e3 e7 hw bs br rog
    rw [EvCall_open H.c191 rfl,EvFn_eq]
    generalize atomsT.flatMap (acs .full) = cA at *
    simp only [StepA.cs] at *
    simp [f191,start,EvCall_closed H.c51 rfl,ht,push_setk,ro,e1,b1t,nst,nsr,ro1,hlA,hkl,hx1,hx2,hx3,hm0,e4,hc,e3,e7,hw,bs,br,rog]
  | true=>
   have hc0:(nextI 2 (nextI atomsT.length l).2).1 = 0:=by simpa using hc
   rw [hc0] at e4
   obtain ⟨g5,e5,S5,K5⟩:=nextR_ok (H.to 190) S4 (n:=prefsT.length) (by omega) (by omega)
   have b5s:=(K5.bl _ nsb (blk_lt b4s)).trans b4s
   have b5r:=(K5.bl _ nrb (blk_lt b4r)).trans b4r
   have KK5:=step_store (by omega) (KK4.trans K5) (.cells (StepA.cs ⟨2,(nextI prefsT.length (nextI 2 (nextI atomsT.length l).2).2).1,k,1,0,[]⟩)) (b:=g1.blks.length)
   have S5':=S5.set nsb (.cells (StepA.cs ⟨2,(nextI prefsT.length (nextI 2 (nextI atomsT.length l).2).2).1,k,1,0,[]⟩))
   have ro5:=S5.ro
   refine fin _ _ _ S5' KK5 (by rw [bl_set,if_pos rfl,b5s]; rfl) (by rw [bl_set,if_neg nsr]; exact b5r) ?_ ?_ (by simp only [symI,hk,hm,hc,Bool.and_self,if_true]; split <;> rfl)
   ·intro g' d e3 hd bs br rog
    rw [EvCall_open H.c191 rfl,EvFn_eq]
    generalize atomsT.flatMap (acs .full) = cA at *
    simp only [StepA.cs] at *
    simp [f191,start,EvCall_closed H.c51 rfl,ht,push_setk,ro,e1,b1t,nst,ro1,hlA,hkl,hx1,hx2,hx3,hm0,e4,b4t,e5,b5s,ro5,e3,hd,bs,br,rog]
   ·intro g' g'' v e3 e7 hw bs br rog
    rw [EvCall_open H.c191 rfl,EvFn_eq]
    generalize atomsT.flatMap (acs .full) = cA at *
    simp only [StepA.cs] at *
    simp [f191,start,EvCall_closed H.c51 rfl,ht,push_setk,ro,e1,b1t,nst,nsr,ro1,hlA,hkl,hx1,hx2,hx3,hm0,e4,b4t,e5,b5s,ro5,e3,e7,hw,bs,br,rog]
end Go.Pv
