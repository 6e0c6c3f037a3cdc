/- A part of the proof: functions of the program in the evaluator's code, and what they come to. Conditions: none; definitions and theorems that the statement's proof uses. -/
import Derived.Test.YtamopjeecnhfaaaGreatDoorSetwPcEv8
/- The program's Eval: what each step comes to. Conditions: the functions' codes; theorems. -/
namespace Go.Pv
variable {E:Env}
abbrev fn292:AV:=.fn (.func 292) [] [.ref 1 0]
def OpOk (E:Env) (h:AHeap) (TS:List AV) (own:Own) (n i:Nat) (t20:AV) (r:Except Int Wo) (st':List Wo):Prop:=
 ∃ (cs:List AV) (e:Int) (h':AHeap),rsW r = .tuple [.agg cs,.int .i64 e]∧EvCode E ab283 (g283 (.ref 0 0) (.ref 1 0) fn292 (.vs own n TS) t20 (.int .i64 i)) h = some (.normal,x283_2 (.ref 0 0) (.ref 1 0) fn292 (.ref (h.blks.length + 1) 0) (.int .i64 e) (.vs own n TS) t20 (.int .i64 i),h') ∧
  h'.bl (h.blks.length + 1) = some (.cells cs)∧StH h.blks.length st' h'
theorem rsW_d {r:Except Int Wo} (hw:∀ w,r = .ok w→WoOk w):∃ (cs:List AV) (e:Int),rsW r = .tuple [.agg cs,.int .i64 e]∧cs.length = 11∧cs.all AV.isCell = true:=by
 cases r with
 | error e=>exact ⟨wo0C,e,rfl,rfl,rfl⟩
 | ok w=>exact ⟨w.C,0,rfl,Wo.C_len (hw w rfl).len,Wo.C_all w⟩
theorem g8_one:g8 = oneW.C:=by rfl
structure OpH (st:List Wo) (h:AHeap) (TS:List AV) (n i:Nat) (x:StepA):Prop where
 s:StH h.blks.length st h
 hl:TS.length = n * 6
 hi:i < n
 hx:(TS.drop (i * 6)).take 6 = x.cs
 few:st.length < 1000000
set_option maxRecDepth 20000 in
set_option maxHeartbeats 1000000 in
theorem op_num (H:Has 283 E) {st:List Wo} {h:AHeap} {TS:List AV} {own:Own} {n i:Nat} {x:StepA} {t20:AV} (P:OpH st h TS n i x) (h1:x.op = 1) (hn:x.num.natAbs ≤ 9223372036854775807):
  OpOk E h TS own n i t20 (ofW x.num) st:=by
 obtain ⟨cs,e,r1,r2,r3⟩:=rsW_d (r:=ofW x.num) (fun w hw=>ofW_ok hn hw)
 have q:=ofW_eq (H.to 293) hn
 rw [r1] at q
 have hl:=P.hl
 have hx:=P.hx
 have hi:=P.hi
 have hro:=P.s.ro
 have hv:=H.v8
 simp only [globAll] at hv
 have hg8:g8.length = 11:=rfl
 have hg8a:g8.all AV.isCell = true:=rfl
 have hg8t:g8.take 11 = g8:=rfl
 have hg8s:setCells 0 g8 z11C = g8:=rfl
 have sc:setCells 0 cs g8 = cs:=setCells_full (by rw [r2]; rfl)
 have e1:(i:Int) < n:=by omega
 have e2:i * 6 < n * 6:=by omega
 have e3:6 ≤ n * 6 - i * 6:=by omega
 have m1:¬ h.blks.length = h.blks.length + 1:=by omega
 refine ⟨cs,e,(h.push (.cells x.cs)).push (.cells cs),r1,?_,by simp,(P.s.push _).push _⟩
 obtain ⟨op,p,a,k,num,text⟩:=x
 dsimp only at h1 q
 subst h1
 simp only [StepA.cs] at hx ⊢
 generalize g8 = G8 at *
 simp [ab283,g283,x283_2,hl,hx,e1,e2,e3,hro,hv,hg8,hg8a,hg8t,hg8s,sc,q,r2,r3,EvCall_closed H.c293 rfl,push_setk]
set_option maxRecDepth 20000 in
set_option maxHeartbeats 1000000 in
theorem op_sym (H:Has 283 E) {st:List Wo} {h:AHeap} {TS:List AV} {own:Own} {n i:Nat} {x:StepA} {t20:AV} (P:OpH st h TS n i x) (h1:x.op = 2):
  OpOk E h TS own n i t20 (symR x) st:=by
 obtain ⟨cs,e,r1,r2,r3⟩:=rsW_d (r:=symR x) (fun w hw=>symR_wo hw)
 have q:=symbol287 (H.to 287) x
 rw [r1] at q
 have hl:=P.hl
 have hx:=P.hx
 have hi:=P.hi
 have hro:=P.s.ro
 have hv:=H.v8
 simp only [globAll] at hv
 have hg8:g8.length = 11:=rfl
 have hg8a:g8.all AV.isCell = true:=rfl
 have hg8t:g8.take 11 = g8:=rfl
 have hg8s:setCells 0 g8 z11C = g8:=rfl
 have sc:setCells 0 cs g8 = cs:=setCells_full (by rw [r2]; rfl)
 have e1:(i:Int) < n:=by omega
 have e2:i * 6 < n * 6:=by omega
 have e3:6 ≤ n * 6 - i * 6:=by omega
 have m1:¬ h.blks.length = h.blks.length + 1:=by omega
 refine ⟨cs,e,(h.push (.cells x.cs)).push (.cells cs),r1,?_,by simp,(P.s.push _).push _⟩
 obtain ⟨op,p,a,k,num,text⟩:=x
 dsimp only at h1
 subst h1
 simp only [StepA.cs] at hx q ⊢
 generalize g8 = G8 at *
 simp [ab283,g283,x283_2,hl,hx,e1,e2,e3,hro,hv,hg8,hg8a,hg8t,hg8s,sc,q,r2,r3,EvCall_closed H.c287 rfl,push_setk]
set_option maxRecDepth 20000 in
set_option maxHeartbeats 1000000 in
theorem op_alone (H:Has 283 E) {st:List Wo} {h:AHeap} {TS:List AV} {own:Own} {n i:Nat} {x:StepA} {t20:AV} (P:OpH st h TS n i x) (h1:x.op = 7):
  OpOk E h TS own n i t20 (.ok oneW) st:=by
 have hl:=P.hl
 have hx:=P.hx
 have hi:=P.hi
 have hro:=P.s.ro
 have hv:=H.v8
 simp only [globAll] at hv
 have hg8:g8.length = 11:=rfl
 have hg8a:g8.all AV.isCell = true:=rfl
 have hg8t:g8.take 11 = g8:=rfl
 have hg8s:setCells 0 g8 z11C = g8:=rfl
 have e1:(i:Int) < n:=by omega
 have e2:i * 6 < n * 6:=by omega
 have e3:6 ≤ n * 6 - i * 6:=by omega
 have m1:¬ h.blks.length = h.blks.length + 1:=by omega
 refine ⟨oneW.C,0,(h.push (.cells x.cs)).push (.cells oneW.C),rfl,?_,by simp,(P.s.push _).push _⟩
 obtain ⟨op,p,a,k,num,text⟩:=x
 dsimp only at h1
 subst h1
 rw [← g8_one]
 simp only [StepA.cs] at hx ⊢
 generalize g8 = G8 at *
 simp [ab283,g283,x283_2,hl,hx,e1,e2,e3,hro,hv,hg8,hg8a,hg8t,hg8s,push_setk]
set_option maxRecDepth 20000 in
set_option maxHeartbeats 1000000 in
theorem op_note (H:Has 283 E) {w:Wo} {st:List Wo} {h:AHeap} {TS:List AV} {own:Own} {n i:Nat} {x:StepA} {t20:AV} (P:OpH (w :: st) h TS n i x) (h1:x.op = 6):
  OpOk E h TS own n i t20 (.ok w) st:=by
 have hl:=P.hl
 have hx:=P.hx
 have hi:=P.hi
 have hro:=P.s.ro
 have hw:=P.s.wo w List.mem_cons_self
 have hv:=H.v8
 simp only [globAll] at hv
 have hg8:g8.length = 11:=rfl
 have hg8a:g8.all AV.isCell = true:=rfl
 have hg8t:g8.take 11 = g8:=rfl
 have hg8s:setCells 0 g8 z11C = g8:=rfl
 have lw:=Wo.C_len hw.len
 have aw:=Wo.C_all w
 have sc:setCells 0 w.C g8 = w.C:=setCells_full (by rw [lw]; rfl)
 have e1:(i:Int) < n:=by omega
 have e2:i * 6 < n * 6:=by omega
 have e3:6 ≤ n * 6 - i * 6:=by omega
 have m1:¬ h.blks.length = h.blks.length + 1:=by omega
 have few:=P.few
 obtain ⟨h',q,s',k⟩:=pop292 (H.to 292) ((P.s.push (.cells x.cs)).push (.cells g8)) (by simp only [List.length_cons] at few; omega)
 obtain ⟨V,hV,_⟩:=P.s.b1
 have l1:=blk_lt hV
 have kb:h'.bl (h.blks.length + 1) = some (.cells g8):=by
  rw [k.old _ (by rw [blks_push_length,blks_push_length]; omega) (by omega)]
  simp
 have hro':=s'.ro
 have s2:=s'.set (k:=h.blks.length + 1) (by omega) (.cells w.C)
 refine ⟨w.C,0,h'.setBlk (h.blks.length + 1) (.cells w.C),rfl,?_,by simp [kb],s2⟩
 obtain ⟨op,p,a,kk,num,text⟩:=x
 dsimp only at h1
 subst h1
 simp only [StepA.cs] at hx q ⊢
 generalize w.C = W at *
 generalize g8 = G8 at *
 simp [ab283,g283,x283_2,hl,hx,e1,e2,e3,hro,hv,hg8,hg8a,hg8t,hg8s,push_setk,q,kb,lw,aw,sc,hro']
end Go.Pv
/- The program's Eval: quotients and products. Conditions: the functions' codes; theorems. -/
namespace Go.Pv
variable {E:Env}
set_option maxRecDepth 20000 in
set_option maxHeartbeats 1000000 in
theorem op_inv (H:Has 283 E) {w:Wo} {st:List Wo} {h:AHeap} {TS:List AV} {own:Own} {n i:Nat} {x:StepA} {t20:AV} (P:OpH (w :: st) h TS n i x) (h1:x.op = 5):
  OpOk E h TS own n i t20 (divW oneW w) st:=by
 have hl:=P.hl
 have hx:=P.hx
 have hi:=P.hi
 have hro:=P.s.ro
 have hw:=P.s.wo w List.mem_cons_self
 obtain ⟨cs,e,r1,r2,r3⟩:=rsW_d (r:=divW oneW w) (fun v hv=>divW_ok oneW_ok hw hv)
 have q2:=divW_eq (H.to 294) oneW_ok hw
 rw [r1] at q2
 simp only [Wo.A,← g8_one] at q2
 have hv:=H.v8
 simp only [globAll] at hv
 have hg8:g8.length = 11:=rfl
 have hg8a:g8.all AV.isCell = true:=rfl
 have hg8t:g8.take 11 = g8:=rfl
 have hg8s:setCells 0 g8 z11C = g8:=rfl
 have sc:setCells 0 cs g8 = cs:=setCells_full (by rw [r2]; rfl)
 have e1:(i:Int) < n:=by omega
 have e2:i * 6 < n * 6:=by omega
 have e3:6 ≤ n * 6 - i * 6:=by omega
 have m1:¬ h.blks.length = h.blks.length + 1:=by omega
 have few:=P.few
 obtain ⟨h',q,s',k⟩:=pop292 (H.to 292) ((P.s.push (.cells x.cs)).push (.cells g8)) (by simp only [List.length_cons] at few; omega)
 obtain ⟨V,hV,_⟩:=P.s.b1
 have l1:=blk_lt hV
 have kb:h'.bl (h.blks.length + 1) = some (.cells g8):=by
  rw [k.old _ (by rw [blks_push_length,blks_push_length]; omega) (by omega)]
  simp
 have hro':=s'.ro
 have s2:=s'.set (k:=h.blks.length + 1) (by omega) (.cells cs)
 refine ⟨cs,e,h'.setBlk (h.blks.length + 1) (.cells cs),r1,?_,by simp [kb],s2⟩
 obtain ⟨op,p,a,kk,num,text⟩:=x
 dsimp only at h1
 subst h1
 simp only [StepA.cs] at hx q ⊢
 generalize w.C = W at *
 generalize g8 = G8 at *
 simp [ab283,g283,x283_2,hl,hx,e1,e2,e3,hro,hv,hg8,hg8a,hg8t,hg8s,push_setk,q,q2,kb,sc,r2,r3,hro']
theorem pop_two (H:Has 292 E) {m:Nat} {a b:Wo} {st:List Wo} {h:AHeap} (s:StH m (b :: a :: st) h) (hs:st.length < 900000):
  ∃ h1 h2,EvCall E (.fn (.func 292) [] [.ref 1 0]) [] h = some (.ret (.agg b.C),h1)∧EvCall E (.fn (.func 292) [] [.ref 1 0]) [] h1 = some (.ret (.agg a.C),h2)∧StH m st h2∧Keep1 1 h h2:=by
 obtain ⟨h1,q1,s1,k1⟩:=pop292 H s (by simp only [List.length_cons]; omega)
 obtain ⟨h2,q2,s2,k2⟩:=pop292 H s1 (by omega)
 exact ⟨h1,h2,q1,q2,s2,k1.trans k2⟩
set_option maxRecDepth 20000 in
set_option maxHeartbeats 1000000 in
theorem op_mul (H:Has 283 E) {a b:Wo} {st:List Wo} {h:AHeap} {TS:List AV} {own:Own} {n i:Nat} {x:StepA} {t20:AV} (P:OpH (b :: a :: st) h TS n i x) (h1:x.op = 3) (hs:st.length < 900000):
  OpOk E h TS own n i t20 (mulW a b) st:=by
 have hl:=P.hl
 have hx:=P.hx
 have hi:=P.hi
 have hro:=P.s.ro
 have hb:=P.s.wo b List.mem_cons_self
 have ha:=P.s.wo a (List.mem_cons_of_mem _ List.mem_cons_self)
 obtain ⟨cs,e,r1,r2,r3⟩:=rsW_d (r:=mulW a b) (fun v hv=>mulW_ok ha hb hv)
 have q2:=mulW_eq (H.to 295) ha hb
 rw [r1] at q2
 simp only [Wo.A] at q2
 have hv:=H.v8
 simp only [globAll] at hv
 have hg8:g8.length = 11:=rfl
 have hg8a:g8.all AV.isCell = true:=rfl
 have hg8t:g8.take 11 = g8:=rfl
 have hg8s:setCells 0 g8 z11C = g8:=rfl
 have sc:setCells 0 cs g8 = cs:=setCells_full (by rw [r2]; rfl)
 have e1:(i:Int) < n:=by omega
 have e2:i * 6 < n * 6:=by omega
 have e3:6 ≤ n * 6 - i * 6:=by omega
 have m1:¬ h.blks.length = h.blks.length + 1:=by omega
 obtain ⟨g1,g2,qa,qb,s',k⟩:=pop_two (H.to 292) ((P.s.push (.cells x.cs)).push (.cells g8)) hs
 obtain ⟨V,hV,_⟩:=P.s.b1
 have l1:=blk_lt hV
 have kl:=k.len
 rw [blks_push_length,blks_push_length] at kl
 have kb:g2.bl (h.blks.length + 1) = some (.cells g8):=by
  rw [k.old _ (by rw [blks_push_length,blks_push_length]; omega) (by omega)]
  simp
 have hro':=s'.ro
 have la:=Wo.C_len ha.len
 have lb:=Wo.C_len hb.len
 have aa:=Wo.C_all a
 have ab:=Wo.C_all b
 have ta:a.C.take 11 = a.C:=List.take_of_length_le (by omega)
 have tb:b.C.take 11 = b.C:=List.take_of_length_le (by omega)
 have sa:setCells 0 a.C z11C = a.C:=set_11 la
 have sb:setCells 0 b.C z11C = b.C:=set_11 lb
 have m2:¬ h.blks.length + 1 = g2.blks.length:=by omega
 have m3:¬ h.blks.length + 1 = g2.blks.length + 1:=by omega
 have m4:¬ g2.blks.length = g2.blks.length + 1:=by omega
 have m5:h.blks.length + 1 < g2.blks.length:=by omega
 have m6:h.blks.length + 1 < g2.blks.length + 1:=by omega
 have m7:¬ h.blks.length = g2.blks.length:=by omega
 have m8:¬ g2.blks.length = h.blks.length:=by omega
 have m9:¬ g2.blks.length = h.blks.length + 1:=by omega
 have s2:=((s'.push (.cells b.C)).push (.cells a.C)).set (k:=h.blks.length + 1) (by omega) (.cells cs)
 refine ⟨cs,e,((g2.push (.cells b.C)).push (.cells a.C)).setBlk (h.blks.length + 1) (.cells cs),r1,?_,by simp [kb,m2,m7],s2⟩
 obtain ⟨op,p,at_,kk,num,text⟩:=x
 dsimp only at h1
 subst h1
 simp only [StepA.cs] at hx qa ⊢
 generalize a.C = AC at *
 generalize b.C = BC at *
 generalize g8 = G8 at *
 simp [ab283,g283,x283_2,hl,hx,e1,e2,e3,m2,m5,m6,m7,hro,hv,hg8,hg8a,hg8t,hg8s,push_setk,push_setl,qa,qb,q2,kb,sc,r2,r3,hro',la,lb,aa,ab,ta,tb,sa,sb,EvCall_closed H.c295 rfl]
set_option maxRecDepth 20000 in
set_option maxHeartbeats 1000000 in
theorem op_div (H:Has 283 E) {a b:Wo} {st:List Wo} {h:AHeap} {TS:List AV} {own:Own} {n i:Nat} {x:StepA} {t20:AV} (P:OpH (b :: a :: st) h TS n i x) (h1:x.op = 4) (hs:st.length < 900000):
  OpOk E h TS own n i t20 (divW a b) st:=by
 have hl:=P.hl
 have hx:=P.hx
 have hi:=P.hi
 have hro:=P.s.ro
 have hb:=P.s.wo b List.mem_cons_self
 have ha:=P.s.wo a (List.mem_cons_of_mem _ List.mem_cons_self)
 obtain ⟨cs,e,r1,r2,r3⟩:=rsW_d (r:=divW a b) (fun v hv=>divW_ok ha hb hv)
 have q2:=divW_eq (H.to 294) ha hb
 rw [r1] at q2
 simp only [Wo.A] at q2
 have hv:=H.v8
 simp only [globAll] at hv
 have hg8:g8.length = 11:=rfl
 have hg8a:g8.all AV.isCell = true:=rfl
 have hg8t:g8.take 11 = g8:=rfl
 have hg8s:setCells 0 g8 z11C = g8:=rfl
 have sc:setCells 0 cs g8 = cs:=setCells_full (by rw [r2]; rfl)
 have e1:(i:Int) < n:=by omega
 have e2:i * 6 < n * 6:=by omega
 have e3:6 ≤ n * 6 - i * 6:=by omega
 have m1:¬ h.blks.length = h.blks.length + 1:=by omega
 obtain ⟨g1,g2,qa,qb,s',k⟩:=pop_two (H.to 292) ((P.s.push (.cells x.cs)).push (.cells g8)) hs
 obtain ⟨V,hV,_⟩:=P.s.b1
 have l1:=blk_lt hV
 have kl:=k.len
 rw [blks_push_length,blks_push_length] at kl
 have kb:g2.bl (h.blks.length + 1) = some (.cells g8):=by
  rw [k.old _ (by rw [blks_push_length,blks_push_length]; omega) (by omega)]
  simp
 have hro':=s'.ro
 have la:=Wo.C_len ha.len
 have lb:=Wo.C_len hb.len
 have aa:=Wo.C_all a
 have ab:=Wo.C_all b
 have ta:a.C.take 11 = a.C:=List.take_of_length_le (by omega)
 have tb:b.C.take 11 = b.C:=List.take_of_length_le (by omega)
 have sa:setCells 0 a.C z11C = a.C:=set_11 la
 have sb:setCells 0 b.C z11C = b.C:=set_11 lb
 have m2:¬ h.blks.length + 1 = g2.blks.length:=by omega
 have m3:¬ h.blks.length + 1 = g2.blks.length + 1:=by omega
 have m4:¬ g2.blks.length = g2.blks.length + 1:=by omega
 have m5:h.blks.length + 1 < g2.blks.length:=by omega
 have m6:h.blks.length + 1 < g2.blks.length + 1:=by omega
 have m7:¬ h.blks.length = g2.blks.length:=by omega
 have m8:¬ g2.blks.length = h.blks.length:=by omega
 have m9:¬ g2.blks.length = h.blks.length + 1:=by omega
 have s2:=((s'.push (.cells b.C)).push (.cells a.C)).set (k:=h.blks.length + 1) (by omega) (.cells cs)
 refine ⟨cs,e,((g2.push (.cells b.C)).push (.cells a.C)).setBlk (h.blks.length + 1) (.cells cs),r1,?_,by simp [kb,m2,m7],s2⟩
 obtain ⟨op,p,at_,kk,num,text⟩:=x
 dsimp only at h1
 subst h1
 simp only [StepA.cs] at hx qa ⊢
 generalize a.C = AC at *
 generalize b.C = BC at *
 generalize g8 = G8 at *
 simp [ab283,g283,x283_2,hl,hx,e1,e2,e3,m2,m5,m6,m7,hro,hv,hg8,hg8a,hg8t,hg8s,push_setk,push_setl,qa,qb,q2,kb,sc,r2,r3,hro',la,lb,aa,ab,ta,tb,sa,sb,EvCall_closed H.c294 rfl]
end Go.Pv
