/- A part of the proof: functions of the program in the evaluator's code, and what they come to. Conditions: none; definitions and theorems that the statement's proof uses. -/
import Derived.Test.YteiaohbhlapklaaGreatDoorSettPcPrint9
/- What can be told. Conditions: the functions' codes; theorems. -/
namespace Go.Pv
variable {E:Env} {x a b:Int} {h:AHeap}
def canI (m:Option (Nat × Int)):Int:=match m with | some (i,_)=>i | none=>-1
theorem can248_eq (H:Has 248 E) (hn:isN x = true) {t:Tr} (ht:TrOk t) (hf:t.fits) (hl:t.steps.length ≤ 255) {v:AV} (hv:TreeV v t.steps):EvClosed E (.fn (.func 248) [] []) [.int .i64 x,v] = some (.tuple [.int .i64 (canI (missD x t.steps 0)),.bool (missD x t.steps 0).isNone]):=by
 obtain ⟨v',sv,hv'⟩:=tree_shut hv
 rw [EvClosed_eq H.c248 rfl (vs:=[.int .i64 x,v']) (by simp [sv]),EvFn_eq]
 have hp:=print235_eq (H.to 235) hn ht hf hl hv'
 unfold printD at hp
 cases hm:missD x t.steps 0 with
 | some ie=>
  obtain ⟨i,e⟩:=ie
  rw [hm] at hp
  simp only [prtT] at hp
  rcases miss_er hm with rfl | rfl <;> simp [f248,start,EvCall_closed H.c235 rfl,hp,canI]
 | none=>
  rw [hm] at hp
  simp only at hp
  by_cases h1:32 < t.deep
  ·rw [if_pos h1] at hp
   simp only [prtT] at hp
   simp [f248,start,EvCall_closed H.c235 rfl,hp,canI]
  ·rw [if_neg h1] at hp
   by_cases h2:255 < (ptext x t).length
   ·rw [if_pos h2] at hp
    simp only [prtT] at hp
    simp [f248,start,EvCall_closed H.c235 rfl,hp,canI]
   ·rw [if_neg h2] at hp
    simp only [prtT] at hp
    simp [f248,start,EvCall_closed H.c235 rfl,hp,canI]
end Go.Pv
/- TellCan is true. Conditions: the functions' codes; theorems. -/
namespace Go.Pv
variable {E:Env} {x a b:Int} {h:AHeap}
theorem name255_eq (H:Has 255 E) {s:StepA} (hs:StepOk s):EvClosed E (.fn (.func 255) [] []) [.agg s.cs] = some (.str (nameS s)):=by
 by_cases h2:s.op = 2
 ·exact name255_sym H hs h2
 rw [EvClosed_eq H.c255 rfl (vs:=[.agg s.cs]) (by simp [StepA.cs]),EvFn_eq]
 cases hs with
 | sym p a n a0 a1 p0 p1 n0 n1 hm=>exact absurd rfl h2
 | num n h1=>
  have hy:=may182_gen (H.to 182) ⟨1,-1,0,0,n,[]⟩ (by simp)
  generalize mayB ⟨1,-1,0,0,n,[]⟩ = b at *
  simp only [StepA.cs] at hy ⊢
  cases b <;> simp [f255,start,EvCall_closed H.c182 rfl,hy,nameS]
 | op o ho=>
  have hy:=may182_gen (H.to 182) ⟨o,-1,0,0,0,[]⟩ (by simp)
  generalize mayB ⟨o,-1,0,0,0,[]⟩ = b at *
  simp only [StepA.cs] at hy ⊢
  rcases ho with rfl | rfl | rfl <;> cases b <;> simp [f255,start,EvCall_closed H.c182 rfl,hy,nameS]
 | text o t ho hp hl=>
  have hy:=may182_gen (H.to 182) ⟨o,-1,0,0,0,t⟩ (by simpa using hl)
  generalize mayB ⟨o,-1,0,0,0,t⟩ = b at *
  simp only [StepA.cs] at hy ⊢
  rcases ho with rfl | rfl <;> cases b <;> simp [f255,start,EvCall_closed H.c182 rfl,hy,nameS]
theorem can248_no (H:Has 248 E) (hn:isN x = false) {t:List StepA} (hl:t.length < 1000000) {v:AV} (hv:TreeV v t):EvClosed E (.fn (.func 248) [] []) [.int .i64 x,v] = some (.tuple [.int .i64 0,.bool false]):=by
 obtain ⟨v',sv,hv'⟩:=tree_shut hv
 rw [EvClosed_eq H.c248 rfl (vs:=[.int .i64 x,v']) (by simp [sv]),EvFn_eq]
 have hp:=print235_no (H.to 235) hl hv' (.inl hn)
 simp only [prtT] at hp
 simp [f248,start,EvCall_closed H.c235 rfl,hp]
theorem can_step (H:Has 257 E) (hn:isN x = true) {s:StepA} (hs:StepOk s):
  (s.op == 2→EvClosed E (.fn (.func 171) [] []) [.int .i64 x,.int .i64 s.pfx,.int .i64 s.atom] = some (.bool (toldD x s.pfx s.atom)))∧EvClosed E (.fn (.func 172) [] []) [.int .i64 x,.str s.text] = some (.bool (plain x s.text)):=by
 cases hs with
 | num n h1=>exact ⟨fun h=>by simp at h,refPlain_eq (H.to 172) x _ (by simp)⟩
 | sym p a n a0 a1 p0 p1 n0 n1 hm=>exact ⟨fun _=>told171_eq (H.to 171) hn p0 p1 a0 a1,refPlain_eq (H.to 172) x _ (by simp)⟩
 | op o ho=>exact ⟨fun h=>by rcases ho with rfl | rfl | rfl <;> simp at h,refPlain_eq (H.to 172) x _ (by simp)⟩
 | text o s ho h1 h2=>exact ⟨fun h=>by rcases ho with rfl | rfl <;> simp at h,refPlain_eq (H.to 172) x _ h2⟩
set_option maxHeartbeats 4000000 in
theorem can_loop (H:Has 257 E) (hn:isN x = true) {own:Own} {t:List StepA} (hok:∀ s ∈ t,StepOk s) (hl:t.length < 1000000):∀ (m i:Nat),i + m = t.length→∀ (h:AHeap),h.ro = 0 →
  ∃ h':AHeap,∀ F,mask k257_0 F = s257_0 (.int .i64 x) (.vs own t.length (t.flatMap StepA.cs)) (.int .i64 i) →
   EvCode E (.loop k257_0 l257_0) F h = some (match missD x (t.drop i) i with | none=>(.exit 0,x257_0,h') | some (j,_)=>(.ret,r257 (.int .i64 j),h'))
 | 0,i,hi,h,hro=>by
  have:i = t.length:=by omega
  subst this
  rw [List.drop_length]
  simp only [missD]
  refine ⟨h,fun F hF=>?_⟩
  rw [EvCode_loop,hF]
  simp [l257_0,s257_0,x257_0]
 | m + 1,i,hi,h,hro=>by
  have hlt:i < t.length:=by omega
  rw [List.drop_eq_getElem_cons hlt]
  have hsok:=hok t[i] (List.getElem_mem hlt)
  obtain ⟨ht1,ht2⟩:=can_step H hn hsok
  have e6:((t.flatMap StepA.cs).drop (i * 6)).take 6 = t[i].cs:=fm_el StepA.len hlt
  have ll:(t.flatMap StepA.cs).length = t.length * 6:=fm_len StepA.len t
  have h6:6 ≤ t.length * 6 - i * 6:=by omega
  have h60:i * 6 < t.length * 6:=by omega
  have w1:IntKind.i64.wrap ((i:Int) + 1) = (i:Int) + 1:=w64
  obtain ⟨g,hg⟩:=can_loop H hn (own:=own) hok hl m (i + 1) (by omega) (h.push (.cells t[i].cs)) (by simpa using hro)
  have cn:((i + 1:Nat):Int) = (i:Int) + 1:=by simp
  rw [cn] at hg
  simp only [missD]
  generalize t[i] = s at *
  generalize t.flatMap StepA.cs = ca at *
  generalize missD x (t.drop (i + 1)) (i + 1) = md at *
  cases hbd:badD x s with
  | none=>
   simp only
   refine ⟨g,fun F hF=>?_⟩
   rw [EvCode_loop,hF]
   generalize EvCode E (.loop k257_0 l257_0) = lp at hg ⊢
   cases hsok with
   | num n h1=>
    simp only [StepA.cs] at e6 hg
    simp [l257_0,s257_0,hlt,ll,h6,h60,e6,w1,push_setk,hro]
    exact hg _ (by simp [s257_0])
   | sym p a n a0 a1 p0 p1 n0 n1 hm=>
    have ht1:=ht1 (by simp)
    simp only [StepA.cs] at e6 hg
    have hb3:toldD x p a = true:=by simpa [badD] using hbd
    rw [hb3] at ht1
    simp [l257_0,s257_0,hlt,ll,h6,h60,e6,w1,push_setk,hro,EvCall_closed H.c171 rfl,ht1]
    exact hg _ (by simp [s257_0])
   | op o ho=>
    simp only [StepA.cs] at e6 hg
    rcases ho with rfl | rfl | rfl
    all_goals
     simp [l257_0,s257_0,hlt,ll,h6,h60,e6,w1,push_setk,hro]
     exact hg _ (by simp [s257_0])
   | text o w ho h1 h2=>
    simp only [StepA.cs] at e6 hg
    rcases ho with rfl | rfl
    all_goals
     have hb3:plain x w = true:=by simpa [badD] using hbd
     rw [hb3] at ht2
     simp [l257_0,s257_0,hlt,ll,h6,h60,e6,w1,push_setk,hro,EvCall_closed H.c172 rfl,ht2]
     exact hg _ (by simp [s257_0])
  | some e=>
   simp only
   refine ⟨h.push (.cells s.cs),fun F hF=>?_⟩
   rw [EvCode_loop,hF]
   generalize EvCode E (.loop k257_0 l257_0) = lp at hg ⊢
   cases hsok with
   | num n h1=>simp [badD] at hbd
   | sym p a n a0 a1 p0 p1 n0 n1 hm=>
    have ht1:=ht1 (by simp)
    simp only [StepA.cs] at e6 ⊢
    cases hb3:toldD x p a with
    | true=>simp [badD,hb3] at hbd
    | false=>
     rw [hb3] at ht1
     simp [l257_0,s257_0,hlt,ll,h6,h60,e6,push_setk,hro,EvCall_closed H.c171 rfl,ht1,r257]
   | op o ho=>rcases ho with rfl | rfl | rfl <;> simp [badD] at hbd
   | text o w ho h1 h2=>
    simp only [StepA.cs] at e6 ⊢
    cases hb3:plain x w with
    | true=>rcases ho with rfl | rfl <;> simp [badD,hb3] at hbd
    | false=>
     rw [hb3] at ht2
     rcases ho with rfl | rfl
     all_goals
      simp [l257_0,s257_0,hlt,ll,h6,h60,e6,push_setk,hro,EvCall_closed H.c172 rfl,ht2,r257]
theorem refCan_eq (H:Has 257 E) (hn:isN x = true) {t:Tr} (ht:TrOk t) (hl:t.steps.length ≤ 255) {v:AV} (hv:TreeV v t.steps):EvClosed E (.fn (.func 257) [] []) [.int .i64 x,v] = some (.int .i64 (canI (missD x t.steps 0))):=by
 obtain ⟨v',sv,hv'⟩:=tree_shut hv
 rw [EvClosed_eq H.c257 rfl (vs:=[.int .i64 x,v']) (by simp [sv]),EvFn_eq]
 have hpos:=Tr.steps_pos t
 rcases hv' with ⟨_,h0⟩ | ⟨own,rfl⟩
 ·rw [h0] at hpos
  simp at hpos
 obtain ⟨g,hg⟩:=can_loop H hn (own:=own) (tr_steps ht) (by omega) t.steps.length 0 (by omega) heap0 rfl
 rw [List.drop_zero] at hg
 generalize t.steps.flatMap StepA.cs = ca at *
 simp [f257,start]
 rw [hg _ (by simp [s257_0])]
 cases missD x t.steps 0 with
 | none=>simp [x257_0,canI]
 | some ie=>obtain ⟨i,e⟩:=ie; simp [r257,canI]
set_option maxHeartbeats 4000000 in
set_option maxRecDepth 20000 in
theorem can247_loop (H:Has 247 E) {own:Own} {t:List StepA} (hok:∀ s ∈ t,StepOk s) (hl:t.length < 1000000) {T0 T6 T7:AV} {h:AHeap}:∀ (m i:Nat),i + m = t.length→∀ F,mask k247_0 F = s247_0 T0 (.vs own t.length (t.flatMap StepA.cs)) T6 T7 (.int .i64 i) →
   EvCode E (.loop k247_0 l247_0) F h = some (.exit 0,x247_0 T0 (.vs own t.length (t.flatMap StepA.cs)) T6 T7,h)
 | 0,i,hi,F,hF=>by
  have:i = t.length:=by omega
  subst this
  rw [EvCode_loop,hF]
  simp [l247_0,s247_0,x247_0]
 | m + 1,i,hi,F,hF=>by
  have hlt:i < t.length:=by omega
  have hsok:=hok t[i] (List.getElem_mem hlt)
  have n1:=name246_eq (H.to 246) hsok
  have n2:=name255_eq (H.to 255) hsok
  have e6:((t.flatMap StepA.cs).drop (i * 6)).take 6 = t[i].cs:=fm_el StepA.len hlt
  have ll:(t.flatMap StepA.cs).length = t.length * 6:=fm_len StepA.len t
  have h6:6 ≤ t.length * 6 - i * 6:=by omega
  have h60:i * 6 < t.length * 6:=by omega
  have w1:IntKind.i64.wrap ((i:Int) + 1) = (i:Int) + 1:=w64
  have ih:=can247_loop H (own:=own) hok hl (T0:=T0) (T6:=T6) (T7:=T7) (h:=h) m (i + 1) (by omega)
  have cn:((i + 1:Nat):Int) = (i:Int) + 1:=by simp
  rw [cn] at ih
  simp only [StepA.cs] at e6 n1 n2
  generalize nameS t[i] = nm at *
  generalize t.flatMap StepA.cs = ca at *
  rw [EvCode_loop,hF]
  generalize EvCode E (.loop k247_0 l247_0) = lp at ih ⊢
  simp [l247_0,s247_0,hlt,ll,h6,h60,e6,w1,n1,n2]
  exact ih _ (by simp [s247_0])
set_option maxHeartbeats 4000000 in
set_option maxRecDepth 20000 in
theorem can247_eq (H:Has 247 E) (x:Int) {v:AV} {L:List Int} (hv:IntsV v L):EvClosed E (.fn (.func 247) [] []) [.int .i64 x,v] = some (.bool true):=by
 obtain ⟨v',sv,hv'⟩:=ints_shut hv
 rw [EvClosed_eq H.c247 rfl (vs:=[.int .i64 x,v']) (by simp [sv]),EvFn_eq]
 have hm:=made_eq (H.to 163) hv'
 obtain ⟨k1,k2,k3⟩:=madeT_ok L
 have ct:=stepsV_cell (madeT L).steps
 obtain ⟨own,hsv⟩:=stepsV_pos (Tr.steps_pos (madeT L))
 have hlp:=fun T6 T7=>can247_loop (E:=E) H (own:=own) (tr_steps k1) (by omega) (T0:=.int .i64 x) (T6:=T6) (T7:=T7) (h:=heap0) (madeT L).steps.length 0 (by omega)
 cases hn:isN x with
 | true=>
  have hx:1 ≤ x∧x ≤ 5:=by simpa [isN] using hn
  have hc:=can248_eq (H.to 248) hn k1 k2 k3 (stepsV_tree _)
  have hr:=refCan_eq (H.to 257) hn k1 k3 (stepsV_tree _)
  have x1:¬ x < 1:=by omega
  have x5:¬ 5 < x:=by omega
  rw [← hsv] at hlp
  cases hmi:missD x (madeT L).steps 0 with
  | none=>
   rw [hmi] at hc hr
   generalize stepsV (madeT L).steps = tv at *
   simp [f247,start,EvCall_closed H.c163 rfl,EvCall_closed H.c248 rfl,hm,hc,canI]
   rw [hlp (.int .i64 (-1)) (.bool true) _ (by simp [s247_0])]
   simp [x247_0,EvCall_closed H.c257 rfl,hr,x1,x5,canI]
  | some ie=>
   obtain ⟨i,e⟩:=ie
   rw [hmi] at hc hr
   have i0:¬ (i:Int) < 0:=by omega
   generalize stepsV (madeT L).steps = tv at *
   simp [f247,start,EvCall_closed H.c163 rfl,EvCall_closed H.c248 rfl,hm,hc,canI]
   rw [hlp (.int .i64 i) (.bool false) _ (by simp [s247_0])]
   simp [x247_0,EvCall_closed H.c257 rfl,hr,x1,x5,canI,i0]
 | false=>
  have hc:=can248_no (H.to 248) hn (t:=(madeT L).steps) (by omega) (stepsV_tree _)
  have hx:x < 1∨5 < x:=by
   have:¬ (1 ≤ x∧x ≤ 5):=by
    intro h
    have:isN x = true:=by simp [isN,h]
    rw [hn] at this
    cases this
   omega
  rw [← hsv] at hlp
  generalize stepsV (madeT L).steps = tv at *
  simp [f247,start,EvCall_closed H.c163 rfl,EvCall_closed H.c248 rfl,hm,hc]
  rw [hlp (.int .i64 0) (.bool false) _ (by simp [s247_0])]
  rcases hx with hx | hx
  ·simp [x247_0,hx]
  ·have:¬ x < 1:=by omega
   simp [x247_0,hx,this]
set_option maxHeartbeats 2000000 in
set_option maxRecDepth 20000 in
theorem tellCan_eq (H:Has 229 E) (n:Int) {v:AV} {L:List Int} (hv:IntsV v L):EvClosed E (.fn (.func 229) [] []) [.int .i64 n,v] = some (.bool true):=by
 obtain ⟨v',sv,hv'⟩:=ints_shut hv
 rw [EvClosed_eq H.c229 rfl (vs:=[.int .i64 n,v']) (by simp [sv]),EvFn_eq]
 have ra:=rest242_eq (H.to 242) (x:=n) (m:=5) (by omega) (by omega)
 obtain ⟨na,wa⟩:=five n
 have haw:=awake240_eq (H.to 240)
 have c1:=can247_eq (H.to 247) n hv'
 have c2:=can247_eq (H.to 247) (1 + n % 5) hv'
 simp [f229,start,EvCall_closed H.c240 rfl,EvCall_closed H.c242 rfl,EvCall_closed H.c247 rfl,haw,ra,wa,c1,c2]
end Go.Pv
