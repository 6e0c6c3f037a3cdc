/- A part of the proof: functions of the program in the evaluator's code, and what they come to. Conditions: none; definitions and theorems that the statement's proof uses. -/
import Derived.Test.YtamopjeecnhfaaaGreatDoorSetsPcEv12
import Derived.Test.YtamopjeecnhfaaaGreatDoorSetsPcEv7
/- The program's Eval: its loop, and all of it. Conditions: the functions' codes; theorems. -/
namespace Go.Pv
variable {E:Env}
def pushW (r:Except Int Wo) (st:List Wo):Except Int (List Wo):=match r with | .ok w=>.ok (w :: st) | .error e=>.error e
theorem mayB_op {x:StepA} (h:mayB x = true):x.op = 1∨x.op = 2∨x.op = 3∨x.op = 4∨x.op = 5∨x.op = 6∨x.op = 7:=by
 unfold mayB at h
 split at h
 ·omega
 ·split at h
  ·omega
  ·split at h
   ·omega
   ·split at h
    ·omega
    ·cases h
structure StepOut (E:Env) (h:AHeap) (TS:List AV) (own:Own) (n i:Nat) (t20:AV) (x:StepA) (st:List Wo) (r:Except Int Wo) (st2:List Wo):Prop where
 op:OpOk E h TS own n i t20 r st2
 eq:stepW x st = pushW r st2
 ok:∀ w,r = .ok w→WoOk w
 ne:∀ e,r = .error e→e ≠ 0
 len:(st2.length:Int) = st.length - takesI x.op
theorem step_all (H:Has 283 E) {st:List Wo} {h:AHeap} {TS:List AV} {own:Own} {n i:Nat} {x:StepA} {t20:AV} (P:OpH st h TS n i x) (hm:mayB x = true) (htk:takesI x.op ≤ st.length) (hn:x.num.natAbs ≤ 9223372036854775807) (hs:st.length < 900000):
  ∃ r st2,StepOut E h TS own n i t20 x st r st2:=by
 rcases mayB_op hm with h1 | h1 | h1 | h1 | h1 | h1 | h1
 ·refine ⟨_,_,op_num H P h1 hn,?_,fun w hw=>ofW_ok hn hw,fun e he=>ofW_ne he,by rw [h1]; simp [takesI]⟩
  simp only [stepW,h1,if_true,pushW]
  cases ofW x.num <;> rfl
 ·refine ⟨_,_,op_sym H P h1,?_,fun w hw=>symR_wo hw,fun e he=>symR_ne he,by rw [h1]; simp [takesI]⟩
  simp [stepW,h1,pushW]
  cases symR x <;> rfl
 ·rw [h1] at htk
  match st,htk,P,hs with
  | b :: a :: st,_,P,hs=>
   have ha:=P.s.wo a (List.mem_cons_of_mem _ List.mem_cons_self)
   have hb:=P.s.wo b List.mem_cons_self
   refine ⟨_,_,op_mul H P h1 (by simp only [List.length_cons] at hs; omega),?_,fun w hw=>mulW_ok ha hb hw,fun e he=>mulW_ne he,by rw [h1]; simp [takesI]; omega⟩
   simp [stepW,h1,pushW]
   cases mulW a b <;> rfl
  | [a],htk,_,_=>simp [takesI] at htk
  | [],htk,_,_=>simp [takesI] at htk
 ·rw [h1] at htk
  match st,htk,P,hs with
  | b :: a :: st,_,P,hs=>
   have ha:=P.s.wo a (List.mem_cons_of_mem _ List.mem_cons_self)
   have hb:=P.s.wo b List.mem_cons_self
   refine ⟨_,_,op_div H P h1 (by simp only [List.length_cons] at hs; omega),?_,fun w hw=>divW_ok ha hb hw,fun e he=>divW_ne he,by rw [h1]; simp [takesI]; omega⟩
   simp [stepW,h1,pushW]
   cases divW a b <;> rfl
  | [a],htk,_,_=>simp [takesI] at htk
  | [],htk,_,_=>simp [takesI] at htk
 ·rw [h1] at htk
  match st,htk,P with
  | w :: st,_,P=>
   have hw:=P.s.wo w List.mem_cons_self
   refine ⟨_,_,op_inv H P h1,?_,fun v hv=>divW_ok oneW_ok hw hv,fun e he=>divW_ne he,by rw [h1]; simp [takesI]⟩
   simp [stepW,h1,pushW]
   cases divW oneW w <;> rfl
  | [],htk,_=>simp [takesI] at htk
 ·rw [h1] at htk
  match st,htk,P with
  | w :: st,_,P=>
   have hw:=P.s.wo w List.mem_cons_self
   refine ⟨_,_,op_note H P h1,?_,fun v hv=>(by cases hv; exact hw),fun e he=>(by cases he),by rw [h1]; simp [takesI]⟩
   simp [stepW,h1,pushW]
  | [],htk,_=>simp [takesI] at htk
 ·refine ⟨_,_,op_alone H P h1,?_,fun w hw=>(by cases hw; exact oneW_ok),fun e he=>(by cases he),by rw [h1]; simp [takesI]⟩
  simp [stepW,h1,pushW]
def Loop283 (E:Env) (t:List StepA) (own:Own) (i:Nat) (h:AHeap) (o:Except Int (List Wo)):Prop:=
 match o with
 | .ok st'=>∃ h',(∀ F,mask k283_0 F = s283_0 (.ref 0 0) (.ref 1 0) fn292 (.vs own t.length (t.flatMap StepA.cs)) (.int .i64 t.length) (.int .i64 i)→EvCode E (.loop k283_0 l283_0) F h = some (.exit 0,x283_0 (.ref 0 0) (.ref 1 0),h'))∧StH h'.blks.length st' h'
 | .error e=>∃ h',(∀ F,mask k283_0 F = s283_0 (.ref 0 0) (.ref 1 0) fn292 (.vs own t.length (t.flatMap StepA.cs)) (.int .i64 t.length) (.int .i64 i)→EvCode E (.loop k283_0 l283_0) F h = some (.ret,r283 (.ref 0 0) (.int .i64 e),h'))∧h'.bl 0 = some (.cells z11C)
theorem loop283 (H:Has 283 E) {own:Own} {t:List StepA} (hl:t.length < 800000) (hn:NumOk t):∀ (r:List StepA) (i:Nat) (st:List Wo) (h:AHeap) (m:Int),t.drop i = r→StH h.blks.length st h→walkB st.length r = some m→st.length ≤ i→i ≤ t.length→Loop283 E t own i h (runW r st):=by
 intro r
 induction r with
 | nil=>
  intro i st h m hr s hw hsi hit
  have hi:t.length ≤ i:=by simpa using hr
  refine ⟨h,fun F hF=>?_,s⟩
  rw [EvCode_loop,hF]
  have:¬ (i:Int) < t.length:=by omega
  simp [l283_eq,s283_0,x283_0,this]
 | cons x r ih=>
  intro i st h m hr s hw hsi hit
  have hi:i < t.length:=by
   rcases Nat.lt_or_ge i t.length with h' | h'
   ·exact h'
   ·rw [List.drop_eq_nil_of_le h'] at hr; cases hr
  have hx:t[i] = x:=by
   rw [List.drop_eq_getElem_cons hi] at hr
   exact (List.cons.inj hr).1
  have hr':t.drop (i + 1) = r:=by
   rw [List.drop_eq_getElem_cons hi] at hr
   exact (List.cons.inj hr).2
  simp only [walkB] at hw
  split at hw
  ·rename_i hc
   simp only [Bool.and_eq_true,decide_eq_true_eq] at hc
   obtain ⟨hm,htk⟩:=hc
   have hlen:(t.flatMap StepA.cs).length = t.length * 6:=fm_len StepA.len t
   have hel:((t.flatMap StepA.cs).drop (i * 6)).take 6 = x.cs:=by rw [fm_el StepA.len hi,hx]
   have hnum:=(hn x (by rw [← hx]; exact List.getElem_mem hi)).1
   obtain ⟨rv,st2,S⟩:=step_all H (own:=own) (t20:=.int .i64 t.length) ⟨s,hlen,hi,hel,by omega⟩ hm htk hnum (by omega)
   obtain ⟨cs,e,h1,q1,q2,q3,q4⟩:=S.op
   have hwrap:IntKind.i64.wrap ((i:Int) + 1) = ((i + 1:Nat):Int):=w64
   have hlt:(i:Int) < t.length:=by omega
   have hsl:=S.len
   have htn:0 ≤ takesI x.op:=by unfold takesI; split <;> (try split) <;> (try split) <;> (try split) <;> omega
   have hst2:st2.length < 1000000:=by omega
   cases rv with
   | error e'=>
    have he:e = e':=by
     simp only [rsW,AV.tuple.injEq,List.cons.injEq,AV.int.injEq] at q1
     exact q1.2.1.2.symm
    subst he
    have hrun:runW (x :: r) st = .error e:=by simp only [runW,S.eq,pushW]
    rw [hrun]
    obtain ⟨h2,w1,w2⟩:=tail_err q4 (S.ne e rfl) (b8:=h.blks.length + 1) (t5:=fn292) (t19:=.vs own t.length (t.flatMap StepA.cs)) (t20:=.int .i64 t.length) (t21:=.int .i64 i) (E:=E)
    refine ⟨h2,fun F hF=>?_,w2⟩
    have hb:EvCode E body283 (g283 (.ref 0 0) (.ref 1 0) fn292 (.vs own t.length (t.flatMap StepA.cs)) (.int .i64 t.length) (.int .i64 i)) h = some (.ret,r283 (.ref 0 0) (.int .i64 e),h2):=by
     rw [body283_eq,q2,thenDo_n,w1]
    rw [EvCode_loop,hF]
    generalize EvCode E (.loop k283_0 l283_0) = lp
    generalize t.flatMap StepA.cs = TS at *
    simp only [g283] at hb
    simp [l283_eq,s283_0,hlt,hb]
   | ok w=>
    have he:e = 0∧cs = w.C:=by
     simp only [rsW,Wo.A,AV.tuple.injEq,List.cons.injEq,AV.int.injEq,AV.agg.injEq] at q1
     exact ⟨q1.2.1.2.symm,q1.1.symm⟩
    obtain ⟨rfl,rfl⟩:=he
    have hrun:runW (x :: r) st = runW r (w :: st2):=by simp only [runW,S.eq,pushW]
    rw [hrun]
    obtain ⟨h2,F1,w1,w2,w3⟩:=tail_ok q4 (S.ok w rfl) hst2 q3 (t5:=fn292) (t19:=.vs own t.length (t.flatMap StepA.cs)) (t20:=.int .i64 t.length) (t21:=.int .i64 i) (E:=E)
    have hb:EvCode E body283 (g283 (.ref 0 0) (.ref 1 0) fn292 (.vs own t.length (t.flatMap StepA.cs)) (.int .i64 t.length) (.int .i64 i)) h = some (.normal,F1,h2):=by
     rw [body283_eq,q2,thenDo_n,w1]
    have hw':walkB ((w :: st2).length:Nat) r = some m:=by
     have:(((w :: st2).length:Nat):Int) = (st.length:Int) - takesI x.op + 1:=by simp only [List.length_cons]; omega
     rw [this]; exact hw
    have ih':=ih (i + 1) (w :: st2) h2 m hr' w3 hw' (by simp only [List.length_cons]; omega) (by omega)
    have st1:∀ X,(∀ F',mask k283_0 F' = s283_0 (.ref 0 0) (.ref 1 0) fn292 (.vs own t.length (t.flatMap StepA.cs)) (.int .i64 t.length) (.int .i64 (i + 1:Nat))→EvCode E (.loop k283_0 l283_0) F' h2 = X)→∀ F,mask k283_0 F = s283_0 (.ref 0 0) (.ref 1 0) fn292 (.vs own t.length (t.flatMap StepA.cs)) (.int .i64 t.length) (.int .i64 i)→EvCode E (.loop k283_0 l283_0) F h = X:=by
     intro X hX F hF
     rw [EvCode_loop,hF]
     generalize EvCode E (.loop k283_0 l283_0) = lp at hX ⊢
     clear ih' ih w3 w1 q2 q4 S hel hlen hn
     generalize t.flatMap StepA.cs = TS at *
     simp only [g283] at hb
     simp only [mask,x283_1,Fr.mk.injEq] at w2
     simp [l283_eq,s283_0,hlt,hb,w2.1,w2.2.1,w2.2.2,hwrap]
     refine hX _ ?_
     simp [s283_0]
    unfold Loop283 at ih' ⊢
    cases ho:runW r (w :: st2) with
    | ok st'=>
     rw [ho] at ih'
     obtain ⟨h3,a1,a2⟩:=ih'
     exact ⟨h3,st1 _ a1,a2⟩
    | error e2=>
     rw [ho] at ih'
     obtain ⟨h3,a1,a2⟩:=ih'
     exact ⟨h3,st1 _ a1,a2⟩
  ·cases hw
theorem eval283 (H:Has 283 E) {v:AV} {t:List StepA} (hv:TreeV v t) (hl:t.length < 800000) (hn:NumOk t):EvClosed E (.fn (.func 283) [] []) [v] = some (rsW (evalR t)):=by
 obtain ⟨v',sv,hv'⟩:=tree_shut hv
 rw [EvClosed_eq H.c283 rfl (vs:=[v']) (by simp [sv]),EvFn_eq]
 have hs:=sound168_gen (H.to 168) hv' (by omega)
 unfold evalR
 cases hb:soundB t with
 | false=>
  rw [hb] at hs
  simp [f283,start,EvCall_closed H.c168 rfl,hs,push_setk,rsW,wo0C]
 | true=>
  rw [hb] at hs
  have hw:walkB 0 t = some 1:=by
   unfold soundB at hb
   simp only [Bool.and_eq_true,decide_eq_true_eq] at hb
   exact hb.1
  rcases hv' with ⟨rfl,rfl⟩ | ⟨own,rfl⟩
  ·simp [walkB] at hw
  ·have hs0:StH 2 [] ((heap0.push (.cells z11C)).push (.cells [.nils])):=⟨rfl,by simp,⟨.nils,by simp,.inl ⟨rfl,rfl⟩⟩,fun w hw=>by simp at hw,Nat.le_refl _,Nat.le_refl _⟩
   have L:=loop283 H (own:=own) hl hn t 0 [] ((heap0.push (.cells z11C)).push (.cells [.nils])) 1 rfl hs0 hw (by simp) (by omega)
   unfold Loop283 at L
   rw [if_pos rfl]
   obtain ⟨tr,hto,hts,_⟩:=sound_tree (fun x hx=>(hn x hx).2) hb
   have hr:runW t [] = match evalT tr with | .ok w=>.ok [w] | .error e=>.error e:=by rw [← hts]; exact run_tree hto []
   cases he:evalT tr with
   | error e=>
    rw [he] at hr
    rw [hr] at L ⊢
    obtain ⟨h',a1,a2⟩:=L
    simp only [Int.natCast_zero] at a1
    simp [f283,start,EvCall_closed H.c168 rfl,hs]
    rw [a1 _ (by simp [s283_0])]
    simp [r283,a2,rsW,wo0C]
   | ok w=>
    rw [he] at hr
    rw [hr] at L ⊢
    obtain ⟨h',a1,a2⟩:=L
    have hwo:WoOk w:=a2.wo w List.mem_cons_self
    obtain ⟨V,b1,b2⟩:=a2.b1
    rcases b2 with ⟨_,b2⟩ | ⟨b,cs,rfl,k1,k2,k3,k4,k5⟩
    ·cases b2
    ·simp only [Int.natCast_zero] at a1
     have b0:=a2.b0
     have hro:=a2.ro
     have lw:=Wo.C_len hwo.len
     have aw:=Wo.C_all w
     have ss:=Wo.C_shut w
     have sw:setCells 0 w.C z11C = w.C:=set_11 lw
     have tw:w.C.take 11 = w.C:=List.take_of_length_le (by omega)
     have k4':cs.take 11 = w.C:=by simpa using k4
     have k5':11 ≤ cs.length:=by simpa using k5
     have l0:=blk_lt b0
     have n9:¬ h'.blks = []:=by intro h; rw [h] at l0; simp at l0
     rw [rsW_ok]
     clear a2
     generalize w.C = W at *
     simp [f283,start,EvCall_closed H.c168 rfl,hs]
     rw [a1 _ (by simp [s283_0])]
     simp [x283_0,b0,b1,k3,k4',k5',hro,lw,aw,ss,sw,tw]
end Go.Pv
/- What the reference says atoms are worth. Conditions: the functions' codes; theorems. -/
namespace Go.Pv
variable {E:Env}
theorem gtW_ok {w:Wo}:gtW (.ok w) = .agg (w.C++[.int .i64 0]):=rfl
theorem C12_len {w:Wo} (h:WoOk w):(w.C++[AV.int .i64 0]).length = 12:=by rw [List.length_append,Wo.C_len h.len]; rfl
theorem C12_shut (w:Wo) (e:Int):shutL 0 0 (w.C++[AV.int .i64 e]) = some (w.C++[AV.int .i64 e]):=shutL_app _ _ (Wo.C_shut w) rfl
theorem C12_all (w:Wo) (e:Int):(w.C++[AV.int .i64 e]).all AV.isCell = true:=by rw [List.all_append,Wo.C_all]; rfl
theorem C12_w {w:Wo} (h:WoOk w) (e:Int):(w.C++[AV.int .i64 e]).take 11 = w.C:=List.take_left' (Wo.C_len h.len)
theorem C12_e {w:Wo} (h:WoOk w) (e:Int):((w.C++[AV.int .i64 e]).drop 11).take 1 = [.int .i64 e]:=by rw [List.drop_left' (Wo.C_len h.len)]; rfl
structure AtH (A P:AV) (acl z wc:List AV) (h:AHeap):Prop where
 ro:h.ro = 0
 b0:h.bl 0 = some (.cells [A,P])
 b1:h.bl 1 = some (.cells z)
 b2:h.bl 2 = some (.cells acl)
 b4:h.bl 4 = some (.cells wc)
set_option maxRecDepth 20000 in
set_option maxHeartbeats 1000000 in
theorem inner306 (H:Has 306 E) {a:AtomR} {A P:AV} {z:List AV} {ws:List Wo} (hws:∀ w ∈ ws,WoOk w) (_hA:A.isCell = true) (_hP:P.isCell = true)
  (hat:∀ (b:Int) (x:Wo),0 ≤ b→ws[b.toNat]? = some x→EvClosed E (.fn (.func 306) [] []) [.agg [A,P],.int .i64 b] = some (gtW (.ok x))) (hts:a.terms.length < 1000):∀ (r:List (Int × Int)) (i:Nat) (w w':Wo) (h:AHeap),a.terms.drop i = r→WoOk w→termsW ws r w = .ok w'→AtH A P (acs .full a) z (w.C++[.int .i64 0]) h →
  ∃ h',(∀ F,mask k306_0 F = s306_0 (.ref 0 0) (.ref 1 0) (.ref 2 0) (.ref 4 0) (.int .i64 i)→EvCode E (.loop k306_0 l306_0) F h = some (.exit 0,x306_0 (.ref 1 0) (.ref 2 0) (.ref 4 0),h'))∧AtH A P (acs .full a) z (w'.C++[.int .i64 0]) h'∧WoOk w':=by
 intro r
 induction r with
 | nil=>
  intro i w w' h hr hw ht S
  have hi:a.terms.length ≤ i:=by simpa using hr
  cases ht
  refine ⟨h,fun F hF=>?_,S,hw⟩
  rw [EvCode_loop,hF]
  have hb2:=S.b2
  have hTV:(termsV .full a.terms = .nils∧a.terms.length = 0)∨∃ own cells,termsV .full a.terms = .vs own a.terms.length cells:=by
   by_cases h0:a.terms = []
   ·rw [h0]; exact .inl ⟨rfl,rfl⟩
   ·exact .inr ⟨_,_,termsV_cons h0⟩
  simp only [acs] at hb2
  have e1:¬ (i:Int) < a.terms.length:=by omega
  have e2:¬ (i:Int) < 0:=by omega
  rcases hTV with ⟨e,_⟩ | ⟨own,cells,e⟩
  ·rw [e] at hb2
   simp [l306_0,s306_0,x306_0,hb2,e2]
  ·rw [e] at hb2
   simp [l306_0,s306_0,x306_0,hb2,e1]
 | cons p r ih=>
  intro i w w' h hr hw ht S
  obtain ⟨b,n⟩:=p
  have hi:i < a.terms.length:=by
   rcases Nat.lt_or_ge i a.terms.length with h' | h'
   ·exact h'
   ·rw [List.drop_eq_nil_of_le h'] at hr; cases hr
  have hp:a.terms[i] = (b,n):=by
   rw [List.drop_eq_getElem_cons hi] at hr
   exact (List.cons.inj hr).1
  have hr':a.terms.drop (i + 1) = r:=by
   rw [List.drop_eq_getElem_cons hi] at hr
   exact (List.cons.inj hr).2
  simp only [termsW] at ht
  split at ht
  ·cases ht
  ·rename_i x hx
   split at hx
   ·rename_i hc
    obtain ⟨b0,n1,n2⟩:=hc
    split at ht
    ·cases ht
    ·rename_i pw hpw
     split at ht
     ·cases ht
     ·rename_i w1 hw1
      obtain ⟨hal,hax⟩:=List.getElem?_eq_some_iff.1 hx
      have hxo:WoOk x:=hws x (by rw [← hax]; exact List.getElem_mem hal)
      have hpo:=powW_ok hxo hpw
      have h1o:=mulW_ok hw hpo hw1
      have q0:=hat b x b0 hx
      have q1:=pow307 (H.to 307) hxo n1 n2
      have q2:=mul284 (H.to 284) hw hpo
      rw [gtW_ok] at q0
      rw [hpw,gtW_ok] at q1
      rw [hw1,gtW_ok] at q2
      have hne:a.terms ≠ []:=by intro h0; rw [h0] at hi; simp at hi
      have hterm:((a.terms.flatMap termCs).drop (i * 2)).take 2 = [.int .i64 b,.int .i64 n]:=by
       rw [fm_el (fun t=>by simp [termCs]) hi,hp]; rfl
      have hterm0:((a.terms.flatMap termCs).drop (i * 2)).take 1 = [.int .i64 b]:=by
       rw [fm_at0 (n:=2) (fun t=>by simp [termCs]) hi (by omega),hp]; rfl
      have hterm1:((a.terms.flatMap termCs).drop (i * 2 + 1)).take 1 = [.int .i64 n]:=by
       rw [fm_at (n:=2) (fun t=>by simp [termCs]) hi (by omega),hp]; rfl
      have htl:(a.terms.flatMap termCs).length = a.terms.length * 2:=fm_len (fun t=>by simp [termCs]) a.terms
      have lx:=C12_len hxo
      have lp:=C12_len hpo
      have lw:=C12_len hw
      have l1:=C12_len h1o
      have wx:=C12_w hxo 0
      have wp:=C12_w hpo 0
      have ww:=C12_w hw 0
      have ex:=C12_e hxo 0
      have ep:=C12_e hpo 0
      have ew:=C12_e hw 0
      have cx:=C12_all x 0
      have cp:=C12_all pw 0
      have c1:=C12_all w1 0
      have k11x:=Wo.C_len hxo.len
      have k11p:=Wo.C_len hpo.len
      have k11w:=Wo.C_len hw.len
      have sx:setCells 0 (x.C++[AV.int .i64 0]) z12C = x.C++[AV.int .i64 0]:=set_12 lx
      have sp:setCells 0 (pw.C++[AV.int .i64 0]) (x.C++[AV.int .i64 0]) = pw.C++[AV.int .i64 0]:=setCells_full (by rw [lp,lx])
      have s1:setCells 0 (w1.C++[AV.int .i64 0]) (w.C++[AV.int .i64 0]) = w1.C++[AV.int .i64 0]:=setCells_full (by rw [l1,lw])
      have hb0:=S.b0
      have hb1:=S.b1
      have hb2:=S.b2
      have hb4:=S.b4
      have hro:=S.ro
      have l4:=blk_lt hb4
      have n0:¬ 0 = h.blks.length:=by omega
      have m1:¬ 1 = h.blks.length:=by omega
      have m2:¬ 2 = h.blks.length:=by omega
      have m4:¬ 4 = h.blks.length:=by omega
      have ne:¬ h.blks = []:=by intro h'; rw [h'] at l4; simp at l4
      obtain ⟨h',g1,g2,g3⟩:=ih (i + 1) w1 w' ((h.push (.cells (pw.C++[.int .i64 0]))).setBlk 4 (.cells (w1.C++[.int .i64 0]))) hr' h1o ht
       ⟨by simp [hro],by simp [n0,hb0],by simp [m1,hb1],by simp [m2,hb2],by simp [m4,hb4]⟩
      refine ⟨h',fun F hF=>?_,g2,g3⟩
      have e1:(i:Int) < a.terms.length:=by omega
      have e2:IntKind.i64.wrap ((i:Int) + 1) = ((i + 1:Nat):Int):=w64
      have e5:i * 2 < a.terms.length * 2:=by omega
      have e7:2 ≤ a.terms.length * 2 - i * 2:=by omega
      have e8:1 ≤ a.terms.length * 2 - i * 2:=by omega
      have e9:1 < a.terms.length * 2 - i * 2:=by omega
      have e11:0 < a.terms.length * 2 - i * 2:=by omega
      have e10:1 ≤ a.terms.length * 2 - (i * 2 + 1):=by omega
      clear hp
      rw [EvCode_loop,hF]
      simp only [acs,termsV_cons hne] at hb2
      generalize EvCode E (.loop k306_0 l306_0) = lp' at g1 ⊢
      simp only [Wo.A] at q1 q2
      generalize hXX:x.C++[AV.int .i64 0] = XX at *
      generalize hPP:pw.C++[AV.int .i64 0] = PP at *
      generalize hWW:w.C++[AV.int .i64 0] = WW at *
      generalize hW1:w1.C++[AV.int .i64 0] = W1 at *
      generalize pw.C = PC at *
      generalize w.C = WC at *
      generalize x.C = XC at *
      generalize a.terms.flatMap termCs = TS at *
      generalize a.terms.length = tl at *
      simp [l306_0,s306_0,hb0,hb2,hb4,hro,m2,m4,e1,e2,e5,e8,e9,e10,e11,htl,hterm0,hterm1,q0,q1,q2,lx,lp,lw,l1,wx,wp,ww,ex,ep,ew,cx,cp,c1,sx,sp,s1,EvCall_closed H.c284 rfl,push_setk]
      refine g1 _ ?_
      simp [s306_0]
   ·cases hx
theorem set_11_12 {W:List AV} (h:W.length = 11):setCells 0 W z12C = W++[.int .i64 0]:=by
 simpa using setCells_at [] z11C [.int .i64 0] W (by rw [h]; rfl)
theorem tag_C12 {w:Wo} (h:w.d.length = 7) (g:Int):(w.C++[AV.int .i64 0]).set 10 (.int .i64 g) = (⟨w.f,w.d,g⟩:Wo).C++[.int .i64 0]:=by
 rw [List.set_append_left _ _ (by rw [Wo.C_len h]; omega),tag_C h]
theorem refB_V:refB.V = .agg [refB.A,refB.P]:=rfl
set_option maxRecDepth 20000 in
set_option maxHeartbeats 2000000 in
theorem refAtom306 (H:Has 306 E):∀ i:Nat,i < atomsT.length→EvClosed E (.fn (.func 306) [] []) [refB.V,.int .i64 i] = some (gtW (.ok (worthT.getD i oneW))):=by
 intro i
 induction i using Nat.strongRecOn with
 | ind i ihs=>
  intro hi
  have h48:atomsT.length = 48:=rfl
  rw [EvClosed_eq H.c306 rfl (vs:=[refB.V,.int .i64 i]) (by simp [Tb.V,Tb.A_shut refB_ok,Tb.P_shut refB_ok]),EvFn_eq]
  obtain ⟨r1,r2,r3⟩:=row_at hi
  obtain ⟨hwl,hwe⟩:=worthT_at hi
  have hai:atomsT[i]? = some atomsT[i]:=List.getElem?_eq_getElem hi
  have hel:((atomsT.flatMap (acs .full)).drop (i * 12)).take 12 = acs .full (atomsT[i]'hi):=fm_el (acs_len .full) hi
  have htl:(atomsT[i]'hi).terms.length < 1000:=by
   have:∀ a ∈ atomsT,a.terms.length < 1000:=by decide
   exact this _ (List.getElem_mem hi)
  generalize (atomsT[i]'hi) = a at r1 hai hel htl
  have hfl:(atomsT.flatMap (acs .full)).length = 48 * 12:=by rw [fm_len (acs_len .full)]; rfl
  have hAV:refB.A = .vs .shared 48 (atomsT.flatMap (acs .full)):=rfl
  have hPc:refB.P.isCell = true:=rfl
  have hAc:refB.A.isCell = true:=rfl
  have hac:=acs_all .full a
  have la:=acs_len .full a
  have e1:(i:Int) < 48:=by omega
  have e2:i * 12 < 576:=by omega
  have e3:12 ≤ 576 - i * 12:=by omega
  rw [refB_V] at ihs ⊢
  by_cases hb:0 ≤ a.base
  ·obtain ⟨h7,hw⟩:=rowW_base r1 hb
   rw [hw] at r2 ⊢
   rw [gtW_ok]
   have hbc:=base_C hb h7
   rw [show g8 = [.int .i64 1,.int .i64 1,.int .i64 0,.int .i64 0,.int .i64 0,.int .i64 0,.int .i64 0,.int .i64 0,.int .i64 0,.int .i64 0,.int .i64 0] from rfl] at hbc
   have lb:=Wo.C_len r2.len
   have sb:=set_11_12 lb
   have s12:setCells 0 ((baseW a.base.toNat).C++[AV.int .i64 0]) z12C = (baseW a.base.toNat).C++[AV.int .i64 0]:=set_12 (C12_len r2)
   have tb:(baseW a.base.toNat).C.take 11 = (baseW a.base.toNat).C:=List.take_of_length_le (by omega)
   have l12:=C12_len r2
   have c12:=C12_all (baseW a.base.toNat) 0
   have sh:=C12_shut (baseW a.base.toNat) 0
   have t12:((baseW a.base.toNat).C++[AV.int .i64 0]).take 12 = (baseW a.base.toNat).C++[AV.int .i64 0]:=List.take_of_length_le (by omega)
   have ab:=Wo.C_all (baseW a.base.toNat)
   have hk:3 + a.base.toNat ≤ 10:=by omega
   have hkn:¬ a.base < 0:=by omega
   clear ihs hw r1 r2 r3 hwe hai
   generalize hB12:(baseW a.base.toNat).C++[AV.int .i64 0] = B12 at *
   generalize (baseW a.base.toNat).C = B at *
   simp only [hAV] at hAc ⊢
   generalize (atomsT.flatMap (acs .full)) = A0 at *
   generalize refB.P = P0 at *
   simp only [acs] at hel hac la
   simp [f306,start,e1,e2,e3,hel,hfl,hb,h7,hk,hbc,lb,sb,s12,tb,l12,c12,sh,t12,termsV_cell,push_setk,push_setl]
  ·obtain ⟨c1,c2,f,w0,hf,hfo,ht,hw⟩:=rowW_not r1 hb
   have w0ok:WoOk ⟨f,d0,0⟩:=⟨hfo,rfl,rfl,Int.le_refl 0,by show (0:Int) ≤ 99; decide⟩
   have hmk:EvClosed E (.fn (.func 301) [] []) [.int .i64 a.num,.int .i64 a.den,.int .i64 a.ten] = some (gtF (.ok f)):=by
    rw [← hf]
    have:∀ x ∈ atomsT,x.ten.natAbs ≤ 1000000:=by decide
    exact make301 (H.to 301) c1 c2 (this _ (List.mem_of_getElem? hai))
   simp only [gtF,gtC,fcC,List.cons_append,List.nil_append] at hmk
   have hsub:∀ (b:Int) (x:Wo),0 ≤ b→(worthT.take i)[b.toNat]? = some x→EvClosed E (.fn (.func 306) [] []) [.agg [refB.A,refB.P],.int .i64 b] = some (gtW (.ok x)):=by
    intro b x hb0 hx
    obtain ⟨k,rfl⟩:∃ k:Nat,b = k:=⟨b.toNat,by omega⟩
    rw [Int.toNat_natCast] at hx
    obtain ⟨hk1,hk2⟩:=List.getElem?_eq_some_iff.1 hx
    rw [List.length_take] at hk1
    have:=ihs k (by omega) (by omega)
    rw [this,List.getD_eq_getElem?_getD,List.getElem?_eq_getElem (by omega)]
    rw [List.getElem_take] at hk2
    rw [hk2]; rfl
   obtain ⟨h1,g1,g2,g4⟩:=inner306 H (a:=a) (A:=refB.A) (P:=refB.P) (z:=z12C) worthT_wo hAc hPc hsub htl a.terms 0 ⟨f,d0,0⟩ w0
    (((((heap0.push (.cells [refB.A,refB.P])).push (.cells z12C)).push (.cells (acs .full a))).push (.cells [.int .i64 f.num,.int .i64 f.den,.int .i64 f.ten,.int .i64 0])).push (.cells ((⟨f,d0,0⟩:Wo).C++[.int .i64 0]))) rfl w0ok ht ⟨rfl,by simp,by simp,by simp,by simp⟩
   rw [hw] at r2 ⊢
   rw [gtW_ok]
   have hb0:=g2.b0
   have hb1:=g2.b1
   have hb2:=g2.b2
   have hb4:=g2.b4
   have hro:=g2.ro
   have lt4:=blk_lt hb4
   have n9:¬ h1.blks = []:=by intro h'; rw [h'] at lt4; simp at lt4
   have lw:=C12_len g4
   have ew:=C12_e g4 0
   have ltg:=tag_C12 g4.len a.tag
   have lb:=C12_len r2
   have s12:setCells 0 ((⟨w0.f,w0.d,a.tag⟩:Wo).C++[AV.int .i64 0]) z12C = (⟨w0.f,w0.d,a.tag⟩:Wo).C++[AV.int .i64 0]:=set_12 lb
   have t12:((⟨w0.f,w0.d,a.tag⟩:Wo).C++[AV.int .i64 0]).take 12 = (⟨w0.f,w0.d,a.tag⟩:Wo).C++[AV.int .i64 0]:=List.take_of_length_le (by omega)
   have c12:=C12_all ⟨w0.f,w0.d,a.tag⟩ 0
   have sh:=C12_shut ⟨w0.f,w0.d,a.tag⟩ 0
   have hFC:(⟨f,d0,0⟩:Wo).C++[AV.int .i64 0] = [.int .i64 f.num,.int .i64 f.den,.int .i64 f.ten,.int .i64 0,.int .i64 0,.int .i64 0,.int .i64 0,.int .i64 0,.int .i64 0,.int .i64 0,.int .i64 0,.int .i64 0]:=by simp [Wo.C,fcC,dC,d0]
   have hb':a.base < 0:=by omega
   rw [hFC] at g1
   clear ihs hw r1 r2 r3 hwe hai hsub ht g2 w0ok hf c1 c2 htl
   generalize (⟨w0.f,w0.d,a.tag⟩:Wo).C++[AV.int .i64 0] = B at *
   generalize w0.C++[AV.int .i64 0] = W0 at *
   simp only [hAV] at hAc g1 hb0 ⊢
   generalize (atomsT.flatMap (acs .full)) = A0 at *
   generalize refB.P = P0 at *
   simp only [acs] at hel hac la g1 hb2
   simp [f306,start,e1,e2,e3,hel,hfl,hb,hmk,EvCall_closed H.c301 rfl,termsV_cell,push_setk]
   rw [g1 _ (by simp [s306_0])]
   simp [x306_0,hb1,hb2,hb4,hro,lw,ew,ltg,lb,s12,t12,c12,sh]
end Go.Pv
