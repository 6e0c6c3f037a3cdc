/- A part of the proof: functions of the program in the evaluator's code, and what they come to. Conditions: none; definitions and theorems that the statement's proof uses. -/
import Derived.Test.YtamopjeecnhfaaaGreatDoorSetwPcEv12
import Derived.Test.YtamopjeecnhfaaaGreatDoorSetwPcEv7
import Derived.Test.YtamopjeecnhfaaaGreatDoorSetwPcMay
import Derived.Test.YtamopjeecnhfaaaGreatDoorSetwPcEv8
import Derived.Test.YtamopjeecnhfaaaGreatDoorSetwPcParse7
/- The program's Eval: its loop, and all of it. Conditions: the functions' codes; theorems. -/
namespace Go.Pv
variable {E:Env}
def pushW (r:Except Int Wo) (st:List Wo):Except Int (List Wo):=match r with | .ok w=>.ok (w :: st) | .error e=>.error e
theorem mayB_op {x:StepA} (h:mayB x = true):x.op = 1∨x.op = 2∨x.op = 3∨x.op = 4∨x.op = 5∨x.op = 6∨x.op = 7:=by
 unfold mayB at h
 split at h
 ·omega
 ·split at h
  ·omega
  ·split at h
   ·omega
   ·split at h
    ·omega
    ·cases h
structure StepOut (E:Env) (h:AHeap) (TS:List AV) (own:Own) (n i:Nat) (t20:AV) (x:StepA) (st:List Wo) (r:Except Int Wo) (st2:List Wo):Prop where
 op:OpOk E h TS own n i t20 r st2
 eq:stepW x st = pushW r st2
 ok:∀ w,r = .ok w→WoOk w
 ne:∀ e,r = .error e→e ≠ 0
 len:(st2.length:Int) = st.length - takesI x.op
theorem step_all (H:Has 283 E) {st:List Wo} {h:AHeap} {TS:List AV} {own:Own} {n i:Nat} {x:StepA} {t20:AV} (P:OpH st h TS n i x) (hm:mayB x = true) (htk:takesI x.op ≤ st.length) (hn:x.num.natAbs ≤ 9223372036854775807) (hs:st.length < 900000):
  ∃ r st2,StepOut E h TS own n i t20 x st r st2:=by
 rcases mayB_op hm with h1 | h1 | h1 | h1 | h1 | h1 | h1
 ·refine ⟨_,_,op_num H P h1 hn,?_,fun w hw=>ofW_ok hn hw,fun e he=>ofW_ne he,by rw [h1]; simp [takesI]⟩
  simp only [stepW,h1,if_true,pushW]
  cases ofW x.num <;> rfl
 ·refine ⟨_,_,op_sym H P h1,?_,fun w hw=>symR_wo hw,fun e he=>symR_ne he,by rw [h1]; simp [takesI]⟩
  simp [stepW,h1,pushW]
  cases symR x <;> rfl
 ·rw [h1] at htk
  match st,htk,P,hs with
  | b :: a :: st,_,P,hs=>
   have ha:=P.s.wo a (List.mem_cons_of_mem _ List.mem_cons_self)
   have hb:=P.s.wo b List.mem_cons_self
   refine ⟨_,_,op_mul H P h1 (by simp only [List.length_cons] at hs; omega),?_,fun w hw=>mulW_ok ha hb hw,fun e he=>mulW_ne he,by rw [h1]; simp [takesI]; omega⟩
   simp [stepW,h1,pushW]
   cases mulW a b <;> rfl
  | [a],htk,_,_=>simp [takesI] at htk
  | [],htk,_,_=>simp [takesI] at htk
 ·rw [h1] at htk
  match st,htk,P,hs with
  | b :: a :: st,_,P,hs=>
   have ha:=P.s.wo a (List.mem_cons_of_mem _ List.mem_cons_self)
   have hb:=P.s.wo b List.mem_cons_self
   refine ⟨_,_,op_div H P h1 (by simp only [List.length_cons] at hs; omega),?_,fun w hw=>divW_ok ha hb hw,fun e he=>divW_ne he,by rw [h1]; simp [takesI]; omega⟩
   simp [stepW,h1,pushW]
   cases divW a b <;> rfl
  | [a],htk,_,_=>simp [takesI] at htk
  | [],htk,_,_=>simp [takesI] at htk
 ·rw [h1] at htk
  match st,htk,P with
  | w :: st,_,P=>
   have hw:=P.s.wo w List.mem_cons_self
   refine ⟨_,_,op_inv H P h1,?_,fun v hv=>divW_ok oneW_ok hw hv,fun e he=>divW_ne he,by rw [h1]; simp [takesI]⟩
   simp [stepW,h1,pushW]
   cases divW oneW w <;> rfl
  | [],htk,_=>simp [takesI] at htk
 ·rw [h1] at htk
  match st,htk,P with
  | w :: st,_,P=>
   have hw:=P.s.wo w List.mem_cons_self
   refine ⟨_,_,op_note H P h1,?_,fun v hv=>(by cases hv; exact hw),fun e he=>(by cases he),by rw [h1]; simp [takesI]⟩
   simp [stepW,h1,pushW]
  | [],htk,_=>simp [takesI] at htk
 ·refine ⟨_,_,op_alone H P h1,?_,fun w hw=>(by cases hw; exact oneW_ok),fun e he=>(by cases he),by rw [h1]; simp [takesI]⟩
  simp [stepW,h1,pushW]
def Loop283 (E:Env) (t:List StepA) (own:Own) (i:Nat) (h:AHeap) (o:Except Int (List Wo)):Prop:=
 match o with
 | .ok st'=>∃ h',(∀ F,mask k283_0 F = s283_0 (.ref 0 0) (.ref 1 0) fn292 (.vs own t.length (t.flatMap StepA.cs)) (.int .i64 t.length) (.int .i64 i)→EvCode E (.loop k283_0 l283_0) F h = some (.exit 0,x283_0 (.ref 0 0) (.ref 1 0),h'))∧StH h'.blks.length st' h'
 | .error e=>∃ h',(∀ F,mask k283_0 F = s283_0 (.ref 0 0) (.ref 1 0) fn292 (.vs own t.length (t.flatMap StepA.cs)) (.int .i64 t.length) (.int .i64 i)→EvCode E (.loop k283_0 l283_0) F h = some (.ret,r283 (.ref 0 0) (.int .i64 e),h'))∧h'.bl 0 = some (.cells z11C)
theorem loop283 (H:Has 283 E) {own:Own} {t:List StepA} (hl:t.length < 800000) (hn:NumOk t):∀ (r:List StepA) (i:Nat) (st:List Wo) (h:AHeap) (m:Int),t.drop i = r→StH h.blks.length st h→walkB st.length r = some m→st.length ≤ i→i ≤ t.length→Loop283 E t own i h (runW r st):=by
 intro r
 induction r with
 | nil=>
  intro i st h m hr s hw hsi hit
  have hi:t.length ≤ i:=by simpa using hr
  refine ⟨h,fun F hF=>?_,s⟩
  rw [EvCode_loop,hF]
  have:¬ (i:Int) < t.length:=by omega
  simp [l283_eq,s283_0,x283_0,this]
 | cons x r ih=>
  intro i st h m hr s hw hsi hit
  have hi:i < t.length:=by
   rcases Nat.lt_or_ge i t.length with h' | h'
   ·exact h'
   ·rw [List.drop_eq_nil_of_le h'] at hr; cases hr
  have hx:t[i] = x:=by
   rw [List.drop_eq_getElem_cons hi] at hr
   exact (List.cons.inj hr).1
  have hr':t.drop (i + 1) = r:=by
   rw [List.drop_eq_getElem_cons hi] at hr
   exact (List.cons.inj hr).2
  simp only [walkB] at hw
  split at hw
  ·rename_i hc
   simp only [Bool.and_eq_true,decide_eq_true_eq] at hc
   obtain ⟨hm,htk⟩:=hc
   have hlen:(t.flatMap StepA.cs).length = t.length * 6:=fm_len StepA.len t
   have hel:((t.flatMap StepA.cs).drop (i * 6)).take 6 = x.cs:=by rw [fm_el StepA.len hi,hx]
   have hnum:=(hn x (by rw [← hx]; exact List.getElem_mem hi)).1
   obtain ⟨rv,st2,S⟩:=step_all H (own:=own) (t20:=.int .i64 t.length) ⟨s,hlen,hi,hel,by omega⟩ hm htk hnum (by omega)
   obtain ⟨cs,e,h1,q1,q2,q3,q4⟩:=S.op
   have hwrap:IntKind.i64.wrap ((i:Int) + 1) = ((i + 1:Nat):Int):=w64
   have hlt:(i:Int) < t.length:=by omega
   have hsl:=S.len
   have htn:0 ≤ takesI x.op:=by unfold takesI; split <;> (try split) <;> (try split) <;> (try split) <;> omega
   have hst2:st2.length < 1000000:=by omega
   cases rv with
   | error e'=>
    have he:e = e':=by
     simp only [rsW,AV.tuple.injEq,List.cons.injEq,AV.int.injEq] at q1
     exact q1.2.1.2.symm
    subst he
    have hrun:runW (x :: r) st = .error e:=by simp only [runW,S.eq,pushW]
    rw [hrun]
    obtain ⟨h2,w1,w2⟩:=tail_err q4 (S.ne e rfl) (b8:=h.blks.length + 1) (t5:=fn292) (t19:=.vs own t.length (t.flatMap StepA.cs)) (t20:=.int .i64 t.length) (t21:=.int .i64 i) (E:=E)
    refine ⟨h2,fun F hF=>?_,w2⟩
    have hb:EvCode E body283 (g283 (.ref 0 0) (.ref 1 0) fn292 (.vs own t.length (t.flatMap StepA.cs)) (.int .i64 t.length) (.int .i64 i)) h = some (.ret,r283 (.ref 0 0) (.int .i64 e),h2):=by
     rw [body283_eq,q2,thenDo_n,w1]
    rw [EvCode_loop,hF]
    generalize EvCode E (.loop k283_0 l283_0) = lp
    generalize t.flatMap StepA.cs = TS at *
    simp only [g283] at hb
    simp [l283_eq,s283_0,hlt,hb]
   | ok w=>
    have he:e = 0∧cs = w.C:=by
     simp only [rsW,Wo.A,AV.tuple.injEq,List.cons.injEq,AV.int.injEq,AV.agg.injEq] at q1
     exact ⟨q1.2.1.2.symm,q1.1.symm⟩
    obtain ⟨rfl,rfl⟩:=he
    have hrun:runW (x :: r) st = runW r (w :: st2):=by simp only [runW,S.eq,pushW]
    rw [hrun]
    obtain ⟨h2,F1,w1,w2,w3⟩:=tail_ok q4 (S.ok w rfl) hst2 q3 (t5:=fn292) (t19:=.vs own t.length (t.flatMap StepA.cs)) (t20:=.int .i64 t.length) (t21:=.int .i64 i) (E:=E)
    have hb:EvCode E body283 (g283 (.ref 0 0) (.ref 1 0) fn292 (.vs own t.length (t.flatMap StepA.cs)) (.int .i64 t.length) (.int .i64 i)) h = some (.normal,F1,h2):=by
     rw [body283_eq,q2,thenDo_n,w1]
    have hw':walkB ((w :: st2).length:Nat) r = some m:=by
     have:(((w :: st2).length:Nat):Int) = (st.length:Int) - takesI x.op + 1:=by simp only [List.length_cons]; omega
     rw [this]; exact hw
    have ih':=ih (i + 1) (w :: st2) h2 m hr' w3 hw' (by simp only [List.length_cons]; omega) (by omega)
    have st1:∀ X,(∀ F',mask k283_0 F' = s283_0 (.ref 0 0) (.ref 1 0) fn292 (.vs own t.length (t.flatMap StepA.cs)) (.int .i64 t.length) (.int .i64 (i + 1:Nat))→EvCode E (.loop k283_0 l283_0) F' h2 = X)→∀ F,mask k283_0 F = s283_0 (.ref 0 0) (.ref 1 0) fn292 (.vs own t.length (t.flatMap StepA.cs)) (.int .i64 t.length) (.int .i64 i)→EvCode E (.loop k283_0 l283_0) F h = X:=by
     intro X hX F hF
     rw [EvCode_loop,hF]
     generalize EvCode E (.loop k283_0 l283_0) = lp at hX ⊢
     clear ih' ih w3 w1 q2 q4 S hel hlen hn
     generalize t.flatMap StepA.cs = TS at *
     simp only [g283] at hb
     simp only [mask,x283_1,Fr.mk.injEq] at w2
     simp [l283_eq,s283_0,hlt,hb,w2.1,w2.2.1,w2.2.2,hwrap]
     refine hX _ ?_
     simp [s283_0]
    unfold Loop283 at ih' ⊢
    cases ho:runW r (w :: st2) with
    | ok st'=>
     rw [ho] at ih'
     obtain ⟨h3,a1,a2⟩:=ih'
     exact ⟨h3,st1 _ a1,a2⟩
    | error e2=>
     rw [ho] at ih'
     obtain ⟨h3,a1,a2⟩:=ih'
     exact ⟨h3,st1 _ a1,a2⟩
  ·cases hw
theorem eval283 (H:Has 283 E) {v:AV} {t:List StepA} (hv:TreeV v t) (hl:t.length < 800000) (hn:NumOk t):EvClosed E (.fn (.func 283) [] []) [v] = some (rsW (evalR t)):=by
 obtain ⟨v',sv,hv'⟩:=tree_shut hv
 rw [EvClosed_eq H.c283 rfl (vs:=[v']) (by simp [sv]),EvFn_eq]
 have hs:=sound168_gen (H.to 168) hv' (by omega)
 unfold evalR
 cases hb:soundB t with
 | false=>
  rw [hb] at hs
  simp [f283,start,EvCall_closed H.c168 rfl,hs,push_setk,rsW,wo0C]
 | true=>
  rw [hb] at hs
  have hw:walkB 0 t = some 1:=by
   unfold soundB at hb
   simp only [Bool.and_eq_true,decide_eq_true_eq] at hb
   exact hb.1
  rcases hv' with ⟨rfl,rfl⟩ | ⟨own,rfl⟩
  ·simp [walkB] at hw
  ·have hs0:StH 2 [] ((heap0.push (.cells z11C)).push (.cells [.nils])):=⟨rfl,by simp,⟨.nils,by simp,.inl ⟨rfl,rfl⟩⟩,fun w hw=>by simp at hw,Nat.le_refl _,Nat.le_refl _⟩
   have L:=loop283 H (own:=own) hl hn t 0 [] ((heap0.push (.cells z11C)).push (.cells [.nils])) 1 rfl hs0 hw (by simp) (by omega)
   unfold Loop283 at L
   rw [if_pos rfl]
   obtain ⟨tr,hto,hts,_⟩:=sound_tree (fun x hx=>(hn x hx).2) hb
   have hr:runW t [] = match evalT tr with | .ok w=>.ok [w] | .error e=>.error e:=by rw [← hts]; exact run_tree hto []
   cases he:evalT tr with
   | error e=>
    rw [he] at hr
    rw [hr] at L ⊢
    obtain ⟨h',a1,a2⟩:=L
    simp only [Int.natCast_zero] at a1
    simp [f283,start,EvCall_closed H.c168 rfl,hs]
    rw [a1 _ (by simp [s283_0])]
    simp [r283,a2,rsW,wo0C]
   | ok w=>
    rw [he] at hr
    rw [hr] at L ⊢
    obtain ⟨h',a1,a2⟩:=L
    have hwo:WoOk w:=a2.wo w List.mem_cons_self
    obtain ⟨V,b1,b2⟩:=a2.b1
    rcases b2 with ⟨_,b2⟩ | ⟨b,cs,rfl,k1,k2,k3,k4,k5⟩
    ·cases b2
    ·simp only [Int.natCast_zero] at a1
     have b0:=a2.b0
     have hro:=a2.ro
     have lw:=Wo.C_len hwo.len
     have aw:=Wo.C_all w
     have ss:=Wo.C_shut w
     have sw:setCells 0 w.C z11C = w.C:=set_11 lw
     have tw:w.C.take 11 = w.C:=List.take_of_length_le (by omega)
     have k4':cs.take 11 = w.C:=by simpa using k4
     have k5':11 ≤ cs.length:=by simpa using k5
     have l0:=blk_lt b0
     have n9:¬ h'.blks = []:=by intro h; rw [h] at l0; simp at l0
     rw [rsW_ok]
     clear a2
     generalize w.C = W at *
     simp [f283,start,EvCall_closed H.c168 rfl,hs]
     rw [a1 _ (by simp [s283_0])]
     simp [x283_0,b0,b1,k3,k4',k5',hro,lw,aw,ss,sw,tw]
end Go.Pv
/- What the reference says atoms are worth. Conditions: the functions' codes; theorems. -/
namespace Go.Pv
variable {E:Env}
theorem gtW_ok {w:Wo}:gtW (.ok w) = .agg (w.C++[.int .i64 0]):=rfl
structure AtH (A P:AV) (acl z wc:List AV) (h:AHeap):Prop where
 ro:h.ro = 0
 b0:h.bl 0 = some (.cells [A,P])
 b1:h.bl 1 = some (.cells z)
 b2:h.bl 2 = some (.cells acl)
 b4:h.bl 4 = some (.cells wc)
end Go.Pv
/- What the reference says a symbol is worth. Conditions: the functions' codes; theorems. -/
namespace Go.Pv
variable {E:Env}
end Go.Pv
/- The reference's functions on trees: how deep brackets stand; digits. Conditions: the functions' codes; theorems. -/
namespace Go.Pv
variable {E:Env}
end Go.Pv
/- What the reference says trees are worth. Conditions: the functions' codes; theorems. -/
namespace Go.Pv
variable {E:Env}
theorem ofW_1:ofW 1 = .ok oneW:=by
 have:(match ofW 1 with | .ok w=>decide (w = oneW) | .error _=>false) = true:=by decide +kernel
 split at this
 ·rename_i w hw
  rw [hw,of_decide_eq_true this]
 ·cases this
structure LastH (ca:List AV) (n:Nat) (x:StepA):Prop where
 ll:ca.length = (n + 1) * 6
 el:(ca.drop (n * 6)).take 6 = x.cs
theorem TreeV.cell {v:AV} {t:List StepA} (h:TreeV v t):v.isCell = true:=by
 rcases h with ⟨rfl,_⟩ | ⟨own,rfl⟩ <;> rfl
end Go.Pv
/- What the reference says trees are worth: by structure. Conditions: the functions' codes; theorems. -/
namespace Go.Pv
variable {E:Env}
structure SideOk (r:Except Int Wo):Prop where
 ok:∀ w,r = .ok w→WoOk w
 ne:∀ e,r = .error e→e ≠ 0
structure NodeH (E:Env) (t:List StepA) (n:Nat) (x:StepA) (v lv rv:AV) (rr:Except Int Wo) (own:Own):Prop where
 vv:v = .vs own (n + 1) (t.flatMap StepA.cs)
 ll:(t.flatMap StepA.cs).length = (n + 1) * 6
 el:((t.flatMap StepA.cs).drop (n * 6)).take 6 = x.cs
 few:n < 1000
 op:x.op = 3∨x.op = 4∨x.op = 5∨x.op = 6
 p:EvClosed E (.fn (.func 188) [] []) [v] = some (.agg [lv,rv])
 r:EvClosed E (.fn (.func 305) [] []) [rv] = some (gtW rr)
 s:SideOk rr
 sv:shut 0 0 v = some v
 lc:lv.isCell = true
 rc:rv.isCell = true
end Go.Pv
/- Trees that are made of numbers. Conditions: the functions' codes; theorems. -/
namespace Go.Pv
variable {E:Env} {h:AHeap} {p:Nat}
theorem step_store {h g:AHeap} {b:Nat} (hb:h.blks.length ≤ b) (K:Stay p h g) (y:ABlk):Stay p h (g.setBlk b y):=K.setNew hb
theorem RW.set {L l:List Int} (S:RW h p L l) {b:Nat} (hb:b ≠ p) (y:ABlk):RW (h.setBlk b y) p L l:=by
 obtain ⟨⟨i,v,h1,h2,h3,h4⟩,h5,h6,h7⟩:=S
 exact ⟨⟨i,v,h1,h2,h3,by rw [bl_set,if_neg hb]; exact h4⟩,h5,h6,h7⟩
theorem metricT_at {a:Nat} (ha:a < atomsT.length):metricT a = atomsT[a].metric:=by
 simp [metricT,ha]
set_option maxHeartbeats 4000000 in
theorem symM_ok (H:Has 191 E) {L l:List Int} (S:RW h p L l):∃ h' q a n,EvCall E (.fn (.func 191) [] []) [.ref p 0] h = some (.ret (.agg (StepA.cs ⟨2,q,a,n,0,[]⟩)),h')∧symI l = (.sym q a n,(symI l).2)∧RW h' p L (symI l).2∧Stay p h h':=by
 have ht:=refTable_eq (H.to 51)
 have hA:atomsT.length < 1000000:=by decide
 have hA0:0 < atomsT.length:=by decide
 have hP:prefsT.length < 1000000:=by decide
 have hP0:0 < prefsT.length:=by decide
 simp only [Tb.V,Tb.A,Tb.P,refB] at ht
 have hp:=S.lt
 have S1:=(S.push (.cells [.int .i64 0,.int .i64 0,.int .i64 0,.int .i64 0,.int .i64 0,.str []])).push (.cells [.vs .shared atomsT.length (atomsT.flatMap (acs .full)),.vs .full prefsT.length (prefsT.flatMap PrefR.cells)])
 have K1:=(Stay.push p h (.cells [.int .i64 0,.int .i64 0,.int .i64 0,.int .i64 0,.int .i64 0,.str []])).trans (Stay.push p _ (.cells [.vs .shared atomsT.length (atomsT.flatMap (acs .full)),.vs .full prefsT.length (prefsT.flatMap PrefR.cells)]))
 obtain ⟨g1,e1,S2,K2⟩:=nextR_ok (H.to 190) S1 (n:=atomsT.length) (by omega) (by omega)
 have hr:=nextI_range (n:=atomsT.length) (by omega) l
 obtain ⟨k,hk⟩:∃ k:Nat,(nextI atomsT.length l).1 = k:=⟨(nextI atomsT.length l).1.toNat,by omega⟩
 have hkl:k < atomsT.length:=by omega
 rw [hk] at e1
 have b1r:g1.bl h.blks.length = some (.cells [.int .i64 0,.int .i64 0,.int .i64 0,.int .i64 0,.int .i64 0,.str []]):=(K2.bl _ (by omega) (by simp; omega)).trans (by simp)
 have b1t:g1.bl (h.blks.length + 1) = some (.cells [.vs .shared atomsT.length (atomsT.flatMap (acs .full)),.vs .full prefsT.length (prefsT.flatMap PrefR.cells)]):=(K2.bl _ (by omega) (by simp)).trans (by simp)
 have lt1:h.blks.length + 1 < g1.blks.length:=blk_lt b1t
 have KK1:=K1.trans K2
 have S3:=S2.push (.cells (StepA.cs ⟨2,-1,k,1,0,[]⟩))
 have K3:=KK1.trans (Stay.push p g1 (.cells (StepA.cs ⟨2,-1,k,1,0,[]⟩)))
 have ro:=S.ro
 have ro1:=S2.ro
 have nsb:¬ g1.blks.length = p:=by omega
 have nrb:¬ h.blks.length = p:=by omega
 have nsr:¬ g1.blks.length = h.blks.length:=by omega
 have nrs:¬ h.blks.length = g1.blks.length:=by omega
 have nst:¬ h.blks.length + 1 = g1.blks.length:=by omega
 -- the table's part
 have hm0:((atomsT.flatMap (acs .full)).drop (k * 12 + 5)).take 1 = [.bool (metricT k)]:=by
  rw [metricT_at hkl,fm_at (acs_len .full) hkl (by omega)]
  rfl
 have hlA:(atomsT.flatMap (acs .full)).length = atomsT.length * 12:=fm_len (acs_len .full) _
 have hx1:k * 12 < atomsT.length * 12:=by omega
 have hx2:5 < atomsT.length * 12 - k * 12:=by omega
 have hx3:1 ≤ atomsT.length * 12 - (k * 12 + 5):=by omega
 have hx4:k * 12 + 5 + 1 ≤ atomsT.length * 12:=by omega
 have fin:∀ (g:AHeap) (q:Int) (l':List Int),RW g p L l'→Stay p h g→g.bl g1.blks.length = some (.cells (StepA.cs ⟨2,q,k,1,0,[]⟩))→g.bl h.blks.length = some (.cells [.int .i64 0,.int .i64 0,.int .i64 0,.int .i64 0,.int .i64 0,.str []]) →
   (∀ (g':AHeap) (d:Int),EvCall E (.fn (.func 190) [] []) [.ref p 0,.int .i64 3] g = some (.ret (.int .i64 d),g')→(d == 0) = false→g'.bl g1.blks.length = some (.cells (StepA.cs ⟨2,q,k,1,0,[]⟩))→g'.bl h.blks.length = some (.cells [.int .i64 0,.int .i64 0,.int .i64 0,.int .i64 0,.int .i64 0,.str []])→g'.ro = 0 →
    EvCall E (.fn (.func 191) [] []) [.ref p 0] h = some (.ret (.agg (StepA.cs ⟨2,q,k,1,0,[]⟩)),g'.setBlk h.blks.length (.cells (StepA.cs ⟨2,q,k,1,0,[]⟩)))) →
   (∀ (g' g'':AHeap) (v:Int),EvCall E (.fn (.func 190) [] []) [.ref p 0,.int .i64 3] g = some (.ret (.int .i64 0),g')→EvCall E (.fn (.func 190) [] []) [.ref p 0,.int .i64 7] g' = some (.ret (.int .i64 v),g'')→IntKind.i64.wrap (v - 3) = v - 3→g''.bl g1.blks.length = some (.cells (StepA.cs ⟨2,q,k,1,0,[]⟩))→g''.bl h.blks.length = some (.cells [.int .i64 0,.int .i64 0,.int .i64 0,.int .i64 0,.int .i64 0,.str []])→g''.ro = 0 →
    EvCall E (.fn (.func 191) [] []) [.ref p 0] h = some (.ret (.agg (StepA.cs ⟨2,q,k,v - 3,0,[]⟩)),(g''.setBlk g1.blks.length (.cells (StepA.cs ⟨2,q,k,v - 3,0,[]⟩))).setBlk h.blks.length (.cells (StepA.cs ⟨2,q,k,v - 3,0,[]⟩)))) →
   (symI l = (.sym q k (if (nextI 3 l').1 == 0 then (nextI 7 (nextI 3 l').2).1 - 3 else 1),if (nextI 3 l').1 == 0 then (nextI 7 (nextI 3 l').2).2 else (nextI 3 l').2)) →
   ∃ h' q a n,EvCall E (.fn (.func 191) [] []) [.ref p 0] h = some (.ret (.agg (StepA.cs ⟨2,q,a,n,0,[]⟩)),h')∧symI l = (.sym q a n,(symI l).2)∧RW h' p L (symI l).2∧Stay p h h':=by
  intro g q l' Sg Kg bs br runA runB hsym
  obtain ⟨g6,e6,S6,K6⟩:=nextR_ok (H.to 190) Sg (n:=3) (by omega) (by omega)
  have b6s:=(K6.bl _ nsb (blk_lt bs)).trans bs
  have b6r:=(K6.bl _ nrb (blk_lt br)).trans br
  cases hd:(nextI 3 l').1 == 0 with
  | false=>
   rw [hd] at hsym
   simp only [Bool.false_eq_true,if_false] at hsym
   refine ⟨_,q,k,1,runA g6 _ e6 hd b6s b6r S6.ro,by rw [hsym],?_,?_⟩
   ·rw [hsym]
    exact S6.set nrb _
   ·exact step_store (Nat.le_refl _) (Kg.trans K6) _
  | true=>
   rw [hd] at hsym
   simp only [if_true] at hsym
   have hd0:(nextI 3 l').1 = 0:=by simpa using hd
   rw [hd0] at e6
   obtain ⟨g7,e7,S7,K7⟩:=nextR_ok (H.to 190) S6 (n:=7) (by omega) (by omega)
   have hr7:=nextI_range (n:=7) (by omega) (nextI 3 l').2
   have b7s:=(K7.bl _ nsb (blk_lt b6s)).trans b6s
   have b7r:=(K7.bl _ nrb (blk_lt b6r)).trans b6r
   refine ⟨_,q,k,_,runB g6 g7 _ e6 e7 w64 b7s b7r S7.ro,by rw [hsym],?_,?_⟩
   ·rw [hsym]
    exact (S7.set nsb _).set nrb _
   ·exact step_store (Nat.le_refl _) (step_store (by omega) ((Kg.trans K6).trans K7) _) _
 have b3s:(g1.push (.cells (StepA.cs ⟨2,-1,k,1,0,[]⟩))).bl g1.blks.length = some (.cells (StepA.cs ⟨2,-1,k,1,0,[]⟩)):=by simp
 have b3r:(g1.push (.cells (StepA.cs ⟨2,-1,k,1,0,[]⟩))).bl h.blks.length = some (.cells [.int .i64 0,.int .i64 0,.int .i64 0,.int .i64 0,.int .i64 0,.str []]):=by simp [nrs,b1r]
 have b3t:(g1.push (.cells (StepA.cs ⟨2,-1,k,1,0,[]⟩))).bl (h.blks.length + 1) = _:=(by simp [nst]:_ = g1.bl (h.blks.length + 1)).trans b1t
 cases hm:metricT k with
 | false=>
  rw [hm] at hm0
  refine fin _ (-1) _ S3 K3 b3s b3r ?_ ?_ (by simp only [symI,hk,hm,Bool.false_and,Bool.false_eq_true,if_false]; split <;> rfl)
  ·intro g' d e3 hd bs br rog
   rw [EvCall_open H.c191 rfl,EvFn_eq]
   generalize atomsT.flatMap (acs .full) = cA at *
   simp only [StepA.cs] at *
   simp [f191,start,EvCall_closed H.c51 rfl,ht,push_setk,ro,e1,b1t,nst,ro1,hlA,hkl,hx1,hx2,hx3,hm0,e3,hd,bs,br,rog]
  ·intro g' g'' v e3 e7 hw bs br rog
   rw [EvCall_open H.c191 rfl,EvFn_eq]
   generalize atomsT.flatMap (acs .full) = cA at *
   simp only [StepA.cs] at *
   simp [f191,start,EvCall_closed H.c51 rfl,ht,push_setk,ro,e1,b1t,nst,nsr,ro1,hlA,hkl,hx1,hx2,hx3,hm0,e3,e7,hw,bs,br,rog]
 | true=>
  rw [hm] at hm0
  obtain ⟨g4,e4,S4,K4⟩:=nextR_ok (H.to 190) S3 (n:=2) (by omega) (by omega)
  have b4s:=(K4.bl _ nsb (blk_lt b3s)).trans b3s
  have b4r:=(K4.bl _ nrb (blk_lt b3r)).trans b3r
  have b4t:=(K4.bl _ (by omega) (blk_lt b3t)).trans b3t
  have KK4:=K3.trans K4
  cases hc:(nextI 2 (nextI atomsT.length l).2).1 == 0 with
  | false=>
   refine fin g4 (-1) _ S4 KK4 b4s b4r ?_ ?_ (by simp only [symI,hk,hm,hc,Bool.and_false,Bool.false_eq_true,if_false,if_true]; split <;> rfl)
   ·intro g' d e3 hd bs br rog
    rw [EvCall_open H.c191 rfl,EvFn_eq]
    generalize atomsT.flatMap (acs .full) = cA at *
    simp only [StepA.cs] at *
    simp [f191,start,EvCall_closed H.c51 rfl,ht,push_setk,ro,e1,b1t,nst,ro1,hlA,hkl,hx1,hx2,hx3,hm0,e4,hc,e3,hd,bs,br,rog]
   ·intro g' g'' v e3 e7 hw bs br rog
    rw [EvCall_open H.c191 rfl,EvFn_eq]
    generalize atomsT.flatMap (acs .full) = cA at *
    simp only [StepA.cs] at *
    simp [f191,start,EvCall_closed H.c51 rfl,ht,push_setk,ro,e1,b1t,nst,nsr,ro1,hlA,hkl,hx1,hx2,hx3,hm0,e4,hc,e3,e7,hw,bs,br,rog]
  | true=>
   have hc0:(nextI 2 (nextI atomsT.length l).2).1 = 0:=by simpa using hc
   rw [hc0] at e4
   obtain ⟨g5,e5,S5,K5⟩:=nextR_ok (H.to 190) S4 (n:=prefsT.length) (by omega) (by omega)
   have b5s:=(K5.bl _ nsb (blk_lt b4s)).trans b4s
   have b5r:=(K5.bl _ nrb (blk_lt b4r)).trans b4r
   have KK5:=step_store (by omega) (KK4.trans K5) (.cells (StepA.cs ⟨2,(nextI prefsT.length (nextI 2 (nextI atomsT.length l).2).2).1,k,1,0,[]⟩)) (b:=g1.blks.length)
   have S5':=S5.set nsb (.cells (StepA.cs ⟨2,(nextI prefsT.length (nextI 2 (nextI atomsT.length l).2).2).1,k,1,0,[]⟩))
   have ro5:=S5.ro
   refine fin _ _ _ S5' KK5 (by rw [bl_set,if_pos rfl,b5s]; rfl) (by rw [bl_set,if_neg nsr]; exact b5r) ?_ ?_ (by simp only [symI,hk,hm,hc,Bool.and_self,if_true]; split <;> rfl)
   ·intro g' d e3 hd bs br rog
    rw [EvCall_open H.c191 rfl,EvFn_eq]
    generalize atomsT.flatMap (acs .full) = cA at *
    simp only [StepA.cs] at *
    simp [f191,start,EvCall_closed H.c51 rfl,ht,push_setk,ro,e1,b1t,nst,ro1,hlA,hkl,hx1,hx2,hx3,hm0,e4,b4t,e5,b5s,ro5,e3,hd,bs,br,rog]
   ·intro g' g'' v e3 e7 hw bs br rog
    rw [EvCall_open H.c191 rfl,EvFn_eq]
    generalize atomsT.flatMap (acs .full) = cA at *
    simp only [StepA.cs] at *
    simp [f191,start,EvCall_closed H.c51 rfl,ht,push_setk,ro,e1,b1t,nst,nsr,ro1,hlA,hkl,hx1,hx2,hx3,hm0,e4,b4t,e5,b5s,ro5,e3,e7,hw,bs,br,rog]
end Go.Pv
