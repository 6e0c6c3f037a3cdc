/- A part of the proof: functions of the program in the evaluator's code, and what they come to. Conditions: none; definitions and theorems that the statement's proof uses. -/
import Derived.Test.YteiaohbhlapklaaGreatDoorSettPcLex8
import Derived.Test.YteiaohbhlapklaaGreatDoorSettPcRef5
import Derived.Test.YteiaohbhlapklaaGreatDoorSettPcParse7
import Derived.Test.YteiaohbhlapklaaGreatDoorSettPcPrint9
import Derived.Test.YteiaohbhlapklaaGreatDoorSettPvArgs
/- A token that can stand nowhere may be of either kind. Conditions: none; theorems. -/
namespace Go.Pv
variable {x sz:Int}
def ph (t:Tok):Tok:=if t.kind == 99 then { t with kind:=0 } else t
theorem ph_text (t:Tok):(ph t).text = t.text:=by unfold ph; split <;> rfl
theorem ph_pos (t:Tok):(ph t).pos = t.pos:=by unfold ph; split <;> rfl
theorem ph_n (t:Tok):(ph t).n = t.n:=by unfold ph; split <;> rfl
theorem ph_kind (t:Tok) {k:Int} (hk:1 ≤ k∧k ≤ 9):((ph t).kind == k) = (t.kind == k):=by
 unfold ph
 split
 ·rename_i h
  have h':t.kind = 99:=by simpa using h
  rw [h']
  show ((0:Int) == k) = ((99:Int) == k)
  have a:((0:Int) == k) = false:=by simp; omega
  have b:((99:Int) == k) = false:=by simp; omega
  rw [a,b]
 ·rfl
def mapN:Except PErr (Int × List Tok)→Except PErr (Int × List Tok)
 | .ok (n,l)=>.ok (n,l.map ph)
 | .error e=>.error e
def mapR:Res (List StepA)→Res (List StepA)
 | .ok (t,l,u)=>.ok (t,l.map ph,u.map ph)
 | .error e=>.error e
theorem isT_ph {k:Int} (hk:1 ≤ k∧k ≤ 9) (l:List Tok):isT k (l.map ph) = isT k l:=by
 cases l with
 | nil=>rfl
 | cons t l=>exact ph_kind t hk
theorem atT_ph (l:List Tok):atT sz (l.map ph) = atT sz l:=by
 cases l with
 | nil=>rfl
 | cons t l=>exact ph_pos t
theorem numP_ph (lo hi:Int) (l:List Tok):numP sz lo hi (l.map ph) = mapN (numP sz lo hi l):=by
 cases l with
 | nil=>rfl
 | cons t l=>
  simp only [List.map_cons,numP,ph_kind t (k:=2) (by omega),ph_n,ph_pos]
  split <;> rfl
theorem powN_ph (l:List Tok):powN sz (l.map ph) = mapN (powN sz l):=by
 cases l with
 | nil=>rfl
 | cons t l=>
  have h:=numP_ph (sz:=sz) 0 99 (t :: l)
  simp only [List.map_cons] at h
  simp only [List.map_cons,powN,ph_kind t (k:=3) (by omega),ph_text]
  split
  ·rw [numP_ph]
   cases numP sz 0 99 l with
   | error e=>rfl
   | ok v=>rfl
  ·exact h
theorem powP_ph (b:Bool) (l:List Tok):powP b sz (l.map ph) = mapN (powP b sz l):=by
 unfold powP
 rw [isT_ph (by omega),isT_ph (by omega),isT_ph (by omega)]
 split
 ·split
  ·rw [← List.map_tail]
   exact powN_ph _
  ·rfl
 ·split
  ·exact powN_ph _
  ·rfl
theorem unkP_ph (ok:Bool) (t:Tok) (u:Option Tok):unkP ok (ph t) (u.map ph) = (unkP ok t u).map ph:=by
 unfold unkP
 rw [Option.isNone_map]
 split <;> rfl
theorem symP_ph (t:Tok) (r:List Tok) (u:Option Tok):symP x sz (ph t) (r.map ph) (u.map ph) = mapR (symP x sz t r u):=by
 unfold symP
 rw [powP_ph,ph_text,unkP_ph]
 cases powP ((sty x).pow != 0) sz r with
 | error e=>rfl
 | ok v=>rfl
section
variable {inner:List Tok→Option Tok→Res (List StepA)}
theorem baseP_ph (hi:∀ l u,inner (l.map ph) (u.map ph) = mapR (inner l u)) (l:List Tok) (u:Option Tok):baseP x sz inner (l.map ph) (u.map ph) = mapR (baseP x sz inner l u):=by
 cases l with
 | nil=>rfl
 | cons t l=>
  have hn:=numP_ph (sz:=sz) 1 maxNum (t :: l)
  have h2:=hi (t :: l) u
  simp only [List.map_cons] at hn h2
  simp only [List.map_cons,baseP,ph_kind t (k:=1) (by omega),ph_kind t (k:=2) (by omega),ph_kind t (k:=7) (by omega),ph_pos]
  split
  ·exact symP_ph t l u
  ·split
   ·rw [hn]
    cases numP sz 1 maxNum (t :: l) with
    | error e=>rfl
    | ok v=>rfl
   ·split
    ·exact h2
    ·rfl
theorem noteP_ph (q:List StepA × List Tok × Option Tok):noteP (q.1,q.2.1.map ph,q.2.2.map ph) = mapR (noteP q):=by
 obtain ⟨t,l,u⟩:=q
 cases l with
 | nil=>rfl
 | cons k l=>
  simp only [List.map_cons,noteP,ph_kind k (k:=9) (by omega),ph_text]
  split <;> rfl
theorem itemB_ph (hi:∀ l u,inner (l.map ph) (u.map ph) = mapR (inner l u)) (l:List Tok) (u:Option Tok):itemB x sz inner (l.map ph) (u.map ph) = mapR (itemB x sz inner l u):=by
 unfold itemB
 rw [baseP_ph hi]
 cases baseP x sz inner l u with
 | error e=>rfl
 | ok q=>exact noteP_ph q
theorem itemP_ph (hi:∀ l u,inner (l.map ph) (u.map ph) = mapR (inner l u)) (l:List Tok) (u:Option Tok):itemP x sz inner (l.map ph) (u.map ph) = mapR (itemP x sz inner l u):=by
 cases l with
 | nil=>exact itemB_ph (x:=x) (sz:=sz) hi [] u
 | cons t l=>
  have h2:=itemB_ph (x:=x) (sz:=sz) hi (t :: l) u
  simp only [List.map_cons] at h2
  simp only [List.map_cons,itemP,ph_kind t (k:=9) (by omega),ph_text]
  split
  ·rfl
  ·exact h2
theorem loopP_ph (hi:∀ l u,inner (l.map ph) (u.map ph) = mapR (inner l u)):∀ (f:Nat) (t:List StepA) (l:List Tok) (u:Option Tok),loopP x sz inner f t (l.map ph) (u.map ph) = mapR (loopP x sz inner f t l u)
 | 0,t,l,u=>rfl
 | f + 1,t,[],u=>rfl
 | f + 1,t,k :: l,u=>by
  simp only [List.map_cons,loopP,ph_kind k (k:=4) (by omega),ph_kind k (k:=5) (by omega)]
  split
  ·rw [itemP_ph hi]
   cases itemP x sz inner l u with
   | error e=>rfl
   | ok q=>exact loopP_ph hi f _ _ _
  ·rfl
theorem mainP_ph (hi:∀ l u,inner (l.map ph) (u.map ph) = mapR (inner l u)) (l:List Tok) (u:Option Tok):mainP x sz inner (l.map ph) (u.map ph) = mapR (mainP x sz inner l u):=by
 unfold mainP
 rw [isT_ph (by omega)]
 have e:(if isT 5 l then (l.map ph).tail else l.map ph) = (if isT 5 l then l.tail else l).map ph:=by
  split
  ·rw [List.map_tail]
  ·rfl
 rw [e,itemP_ph hi]
 cases itemP x sz inner (if isT 5 l then l.tail else l) u with
 | error e=>rfl
 | ok q=>
  obtain ⟨t,l',u'⟩:=q
  simp only [mapR,List.length_map]
  exact loopP_ph hi _ _ _ _
end
theorem closeP_ph (q:List StepA × List Tok × Option Tok):closeP sz (q.1,q.2.1.map ph,q.2.2.map ph) = mapR (closeP sz q):=by
 obtain ⟨t,l,u⟩:=q
 cases l with
 | nil=>rfl
 | cons k l=>
  simp only [List.map_cons,closeP,ph_kind k (k:=8) (by omega),ph_pos]
  split <;> rfl
theorem levelP_ph:∀ (d:Nat) (l:List Tok) (u:Option Tok),levelP x sz d (l.map ph) (u.map ph) = mapR (levelP x sz d l u)
 | 0,l,u=>by
  simp only [levelP,atT_ph]
  rfl
 | d + 1,l,u=>by
  simp only [levelP,← List.map_tail]
  rw [mainP_ph (levelP_ph d)]
  cases mainP x sz (levelP x sz d) l.tail u with
  | error e=>rfl
  | ok q=>exact closeP_ph q
theorem treeP_ph (l:List Tok):treeP x sz (l.map ph) = treeP x sz l:=by
 unfold treeP
 have h:=mainP_ph (x:=x) (sz:=sz) (inner:=levelP x sz 32) (levelP_ph (x:=x) (sz:=sz) 32) l none
 simp only [Option.map_none] at h
 rw [h]
 cases mainP x sz (levelP x sz 32) l none with
 | error e=>rfl
 | ok q=>
  obtain ⟨t,l',u'⟩:=q
  cases l' with
  | cons k m=>
   simp only [mapR,List.map_cons,ph_pos]
  | nil=>
   cases u' with
   | none=>rfl
   | some t=>
    simp only [mapR,List.map_nil,Option.map_some,ph_pos,ph_text]
theorem treeP_end (l:List Tok) (p:Int):treeP x sz (l++[⟨99,p,[],0⟩]) = treeP x sz (l++[⟨0,p,[],0⟩]):=by
 have a:=treeP_ph (x:=x) (sz:=sz) (l++[⟨99,p,[],0⟩])
 have b:=treeP_ph (x:=x) (sz:=sz) (l++[⟨0,p,[],0⟩])
 have e:(l++[(⟨99,p,[],0⟩:Tok)]).map ph = (l++[(⟨0,p,[],0⟩:Tok)]).map ph:=by
  simp only [List.map_append]
  rfl
 exact a.symm.trans ((congrArg (treeP x sz) e).trans b)
end Go.Pv
/- The reference's parse; two things that were parsed are the same. Conditions: the functions' codes; theorems. -/
namespace Go.Pv
variable {E:Env} {x:Int}
set_option maxHeartbeats 2000000 in
theorem parseR_eq (H:Has 167 E) (x:Int) (s:List UInt8) (hs:s.length < 900000):EvClosed E (.fn (.func 167) [] []) [.int .i64 x,.str s] = some (.agg (parseP x s).cs):=by
 rw [EvClosed_eq H.c167 rfl (vs:=[.int .i64 x,.str s]) (by simp),EvFn_eq]
 unfold parseP
 cases hn:isN x with
 | false=>
  have hq:decide (x < 1) = true∨(decide (x < 1) = false∧decide (5 < x) = true):=by
   simp only [isN,Bool.and_eq_false_iff,decide_eq_false_iff_not] at hn
   by_cases h:x < 1
   ·exact .inl (decide_eq_true h)
   ·exact .inr ⟨decide_eq_false h,decide_eq_true (by omega)⟩
  rcases hq with h1 | ⟨h1,h2⟩
  ·simp [f167,start,h1,Psd.cs,stepsV,push_setk]
  ·simp [f167,start,h1,h2,Psd.cs,stepsV,push_setk]
 | true=>
  have hx':1 ≤ x∧x ≤ 5:=by simpa [isN] using hn
  have d1:decide (x < 1) = false:=decide_eq_false (by omega)
  have d2:decide (5 < x) = false:=decide_eq_false (by omega)
  simp only [if_true]
  by_cases h255:s.length ≤ 255
  ·simp only [if_pos h255]
   have d3:decide (255 < (s.length:Int)) = false:=decide_eq_false (by omega)
   obtain ⟨g,v,e1,G,ro,rot,hold⟩:=each164_open (H.to 164) x s hs (heap0.push (.cells [.nils,.int .i64 0,.int .i64 0,.int .i64 0])) rfl (Nat.le_refl _)
   have hb:=hold 0 (by simp)
   simp at hb
   have n0:=blk_ne hb
   have hlen:=lexF_len x s.length s 0
   have e:lexF x s.length s 0 = lexS x s:=rfl
   rw [e] at hlen
   have vc:=G.cell
   have vcs:=G.cells
   unfold AV.cells? at vcs
   by_cases hend:(lexS x s).2 < s.length
   ·simp only [if_pos hend]
    have d4:decide (((lexS x s).2:Int) < (s.length:Int)) = true:=decide_eq_true (by omega)
    have G':=Grow.of_heap (h':=g.push (.cells [v,.int .i64 (lexS x s).2])) G rfl rfl
    obtain ⟨ts,v',a1,G2,ht⟩:=grow_app (bytes:=40) (m:=1) (xs:=Tok.cs ⟨99,(lexS x s).2,[],0⟩) G' rot (by omega) (by omega) (by omega) rfl (Tok.all _)
    have hsh:=grow_shut (l:=(lexS x s).1++[⟨99,(lexS x s).2,[],0⟩]) (by simpa using G2)
    have ht2:=treeR_eq (H.to 177) (sz:=s.length) hn ((lexS x s).1++[⟨99,(lexS x s).2,[],0⟩]) (by simp; omega) hsh
    rw [treeP_end] at ht2
    simp only [Tok.cs] at a1
    generalize treeP x s.length ((lexS x s).1++[⟨0,(lexS x s).2,[],0⟩]) = q at ht2 ⊢
    have qs:=stepsV_shut q.tree
    have qc:=stepsV_cell q.tree
    simp only [Psd.cs] at ht2 ⊢
    simp [-den,f167,start,d1,d2,d3,e1,hend,vc,push_set,ro,n0,a1,EvCall_closed H.c177 rfl,ht2,bl_toks,ro_toks,hb,qs,qc]
   ·simp only [if_neg hend]
    have d4:decide (((lexS x s).2:Int) < (s.length:Int)) = false:=decide_eq_false (by omega)
    have hsh:=grow_shut G
    have ht2:=treeR_eq (H.to 177) (sz:=s.length) hn (lexS x s).1 (by omega) hsh
    generalize treeP x s.length (lexS x s).1 = q at ht2 ⊢
    have qs:=stepsV_shut q.tree
    have qc:=stepsV_cell q.tree
    simp only [Psd.cs] at ht2 ⊢
    simp [-den,f167,start,d1,d2,d3,e1,hend,vc,push_set,ro,n0,EvCall_closed H.c177 rfl,ht2,hb,qs,qc]
  ·simp only [if_neg h255]
   have d3:decide (255 < (s.length:Int)) = true:=decide_eq_true (by omega)
   simp [f167,start,d1,d2,d3,Psd.cs,stepsV,push_setk]
end Go.Pv
/- TellTells is true. Conditions: the functions' codes; theorems. -/
namespace Go.Pv
variable {E:Env} {x a b:Int} {h:AHeap}
set_option maxHeartbeats 4000000 in
set_option maxRecDepth 20000 in
theorem ref245_eq (H:Has 245 E) {s:List UInt8} (hs:s.length < 900000) {r:TellR} (hr:TellIs a b s r):EvClosed E (.fn (.func 245) [] []) [.int .i64 a,.int .i64 b,.str s] = some (.agg r.cs):=by
 rw [EvClosed_eq H.c245 rfl (vs:=[.int .i64 a,.int .i64 b,.str s]) (by simp),EvFn_eq]
 have pe:=parseR_eq (H.to 167) a s hs
 have out:∀ n:Int,isN n = false→n < 1∨(¬ n < 1∧5 < n):=by
  intro n h
  have:¬ (1 ≤ n∧n ≤ 5):=fun q=>by
   have:isN n = true:=by simp [isN,q]
   rw [h] at this
   cases this
  omega
 have inn:∀ n:Int,isN n = true→¬ n < 1∧¬ 5 < n:=by
  intro n h
  have:1 ≤ n∧n ≤ 5:=by simpa [isN] using h
  omega
 cases hr with
 | arg h0=>
  cases ha:isN a with
  | false=>
   rcases out a ha with q | ⟨q1,q2⟩
   ·simp [f245,start,TellR.cs,q,push_setk]
   ·simp [f245,start,TellR.cs,q1,q2,push_setk]
  | true=>
   rw [ha,Bool.true_and] at h0
   obtain ⟨q1,q2⟩:=inn a ha
   rcases out b h0 with q | ⟨q3,q4⟩
   ·simp [f245,start,TellR.cs,q1,q2,q,push_setk]
   ·simp [f245,start,TellR.cs,q1,q2,q3,q4,push_setk]
 | bad ha hb he=>
  obtain ⟨q1,q2⟩:=inn a ha
  obtain ⟨q3,q4⟩:=inn b hb
  have ct:=stepsV_cell (parseP a s).tree
  have he':((parseP a s).err != 0) = true:=by simpa using he
  simp only [Psd.cs] at pe
  generalize stepsV (parseP a s).tree = tv at *
  generalize (parseP a s).err = e at *
  generalize (parseP a s).pos = ps at *
  simp [f245,start,EvCall_closed H.c167 rfl,q1,q2,q3,q4,pe,ct,he',TellR.cs,push_setk]
 | told tr hb P=>
  obtain ⟨q1,q2⟩:=inn a P.n
  obtain ⟨q3,q4⟩:=inn b hb
  have hp:=ref236_eq (H.to 236) hb P.ok P.fits P.few (stepsV_tree _)
  obtain ⟨own,hsv⟩:=stepsV_pos (Tr.steps_pos tr)
  have e1:=P.eq
  have e2:=P.err
  have ct:=stepsV_cell tr.steps
  cases hq:parseP a s with | mk tree err pos len=>
  rw [hq] at pe e1 e2
  simp only at e1 e2
  subst e1 e2
  simp only [Psd.cs] at pe
  simp only [prtV] at hp
  simp only [tellT]
  by_cases h16:(printD b tr).2.2 = 16
  ·obtain ⟨i,hi2,e3,hok,h2,_⟩:=print_16 P.ok h16
   rw [e3] at hp ⊢
   simp only [if_true]
   rw [nameAt_eq hi2]
   have hn:=name255_sym (H.to 255) hok h2
   have e6:((tr.steps.flatMap StepA.cs).drop (i * 6)).take 6 = tr.steps[i].cs:=fm_el StepA.len hi2
   have ll:(tr.steps.flatMap StepA.cs).length = tr.steps.length * 6:=fm_len StepA.len _
   have h6:6 ≤ tr.steps.length * 6 - i * 6:=by omega
   have h60:i * 6 < tr.steps.length * 6:=by omega
   rw [hsv] at pe hp
   simp only [StepA.cs] at e6 hn
   generalize tr.steps.flatMap StepA.cs = ca at *
   generalize nameS tr.steps[i] = nm at *
   simp [f245,start,EvCall_closed H.c167 rfl,EvCall_closed H.c236 rfl,EvCall_closed H.c255 rfl,q1,q2,q3,q4,pe,hp,hi2,e6,ll,h6,h60,hn,TellR.cs,push_setk]
  ·rw [if_neg h16]
   have h16':((printD b tr).2.2 == 16) = false:=by simpa using h16
   generalize (printD b tr).1 = u at *
   generalize (printD b tr).2.1 = i at *
   generalize (printD b tr).2.2 = e at *
   generalize stepsV tr.steps = tv at *
   simp [f245,start,EvCall_closed H.c167 rfl,EvCall_closed H.c236 rfl,q1,q2,q3,q4,pe,hp,ct,h16',TellR.cs,push_setk]
set_option maxHeartbeats 2000000 in
set_option maxRecDepth 20000 in
theorem tellTells_eq (H:Has 225 E) (p q:Int) (s:List UInt8) {v:AV} {L:List Int} (hv:IntsV v L):EvClosed E (.fn (.func 225) [] []) [.agg [.int .i64 p,.int .i64 q],.str s,v] = some (.bool true):=by
 obtain ⟨v',sv,hv'⟩:=ints_shut hv
 rw [EvClosed_eq H.c225 rfl (vs:=[.agg [.int .i64 p,.int .i64 q],.str s,v']) (by simp [sv]),EvFn_eq]
 have ra:=rest242_eq (H.to 242) (x:=p) (m:=5) (by omega) (by omega)
 have rb:=rest242_eq (H.to 242) (x:=q) (m:=5) (by omega) (by omega)
 obtain ⟨na,wa⟩:=five p
 obtain ⟨nb,wb⟩:=five q
 have haw:=awake240_eq (H.to 240)
 have hsh:EvClosed E (.fn (.func 241) [] []) [.str s,.int .i64 300] = some (.str (s.take 300)):=short241_eq (H.to 241) s 300 (by omega)
 have ht:=text243_eq (H.to 243) na hv'
 have htl:=text_len L na
 have hsl:(s.take 300).length ≤ 300:=by simp; omega
 generalize s.take 300 = u at *
 generalize (printD (1 + p % 5) (madeT L)).1 = t at *
 obtain ⟨r1,h1⟩:=tell_is p q u
 obtain ⟨r2,h2⟩:=tell_is (1 + p % 5) (1 + q % 5) u
 obtain ⟨r3,h3⟩:=tell_is (1 + p % 5) (1 + q % 5) t
 obtain ⟨r4,h4⟩:=tell_is (1 + p % 5) (1 + q % 5) (t++u)
 have a1:=tell244_eq (H.to 244) (by omega) h1
 have a2:=tell244_eq (H.to 244) (by omega) h2
 have a3:=tell244_eq (H.to 244) (by omega) h3
 have a4:=tell244_eq (H.to 244) (by simp; omega) h4
 have b1:=ref245_eq (H.to 245) (by omega) h1
 have b2:=ref245_eq (H.to 245) (by omega) h2
 have b3:=ref245_eq (H.to 245) (by omega) h3
 have b4:=ref245_eq (H.to 245) (by simp; omega) h4
 have ll:t.length + u.length ≤ 9223372036854775807:=by omega
 clear h1 h2 h3 h4
 obtain ⟨t1,e1,p1,n1⟩:=r1
 obtain ⟨t2,e2,p2,n2⟩:=r2
 obtain ⟨t3,e3,p3,n3⟩:=r3
 obtain ⟨t4,e4,p4,n4⟩:=r4
 simp only [TellR.cs] at a1 a2 a3 a4 b1 b2 b3 b4
 simp [f225,start,EvCall_closed H.c240 rfl,EvCall_closed H.c241 rfl,EvCall_closed H.c242 rfl,EvCall_closed H.c243 rfl,haw,ra,rb,wa,wb,hsh,ht,a1,a2,a3,a4,b1,b2,b3,b4,ll]
end Go.Pv
/- A law's arguments: arrays of two, and of three, whole numbers. Conditions: what the program's types are; theorems. -/
namespace Go.Pv
open Go.RowKit Go.ChangeShapes Go.WideShapes Go.ChangeMaps Go.WideElems Go.Deep Go.Joins
variable {H:Type} {enc:TypeId × Value→H} {T:Tie} {W:World} {t e:TypeId} {v:Value} {d:DataW H} {ps:List MemPlace} {b0:Nat}
theorem int_cell {P:Program} (he:P.underlying e = some (.int .i64)) {sp:Nat→Bool} {n:Nat} {cs:List Value} {x:DataW H × List MemPlace} (h:DataW.trod enc P W 0 sp true n e cs = some x):∃ a:Int,cs = [.int .i64 a]:=by
 cases n with
 | zero=>simp [DataW.trod] at h
 | succ n=>
  obtain ⟨a,e0,_⟩:=DataW.trod_int he h
  exact ⟨a,e0⟩
theorem arg_ints2 (ha:T.P.underlying t = some (.array 2 e)) (hC2:T.P.cellsOf t = 2) (he:T.P.underlying e = some (.int .i64)) (hC:T.P.cellsOf e = 1)
  (hval:Value.okWide T.P W .any b0 t v) (hd:DataW.Trod enc T.P W 0 (fun _=>true) true t v d ps):∃ a b:Int,ArgOk enc T W t v d ps (.agg [.int .i64 a,.int .i64 b]):=by
 obtain ⟨cs,rfl,hsz⟩:∃ cs,v = .agg cs∧cs.size = T.P.cellsOf t:=by
  simp only [Value.okWide,ha] at hval
  obtain ⟨cs,h1,h2,_⟩:=hval
  exact ⟨cs,h1,h2⟩
 have hd':=hd
 obtain ⟨n,h⟩:=hd
 obtain ⟨xs,m,_,_,hl,hx,hall⟩:=DataW.trod_array ha h
 simp only [Value.cells] at hall hl
 have get:∀ i,i < 2→∃ a:Int,(cs.toList.drop (i * 1)).take 1 = [.int .i64 a]:=by
  intro i hi
  have:=hall i hi
  rw [hC,List.getElem?_eq_getElem (by omega)] at this
  exact int_cell he this
 obtain ⟨a,e0⟩:=get 0 (by omega)
 obtain ⟨b,e1⟩:=get 1 (by omega)
 refine ⟨a,b,flat_shut (flat_array ha (flat_int he)) ?_ hd'⟩
 have hl2:cs.toList.length = 2:=by rw [Array.length_toList,hsz,hC2]
 have e2:cs.toList = [.int .i64 a,.int .i64 b]:=by
  generalize cs.toList = l at *
  rcases l with _ | ⟨v0,_ | ⟨v1,_ | ⟨v2,vs⟩⟩⟩
  all_goals simp at hl2
  simp at e0 e1
  rw [e0,e1]
 simp only [RepV,RepL]
 exact ⟨cs.toList,rfl,_,_,e2,rfl,_,_,rfl,rfl,rfl⟩
end Go.Pv
