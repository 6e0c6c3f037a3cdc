/- A part of the proof: functions of the program in the evaluator's code, and what they come to. Conditions: none; definitions and theorems that the statement's proof uses. -/
import Derived.Test.YtamopjeecnhfaaaGreatDoorSetgPcEv20
import Derived.Test.YtamopjeecnhfaaaGreatDoorSetgPvArgs
/- The law EvalNotes. Conditions: the functions' codes; theorems. -/
namespace Go.Pv
variable {E:Env}
def less (t:List StepA):List StepA:=t.filter fun x=>x.op != 6
theorem run_less:∀ (t:List StepA) (st:List Wo),runW (less t) st = runW t st
 | [],st=>rfl
 | x :: t,st=>by
  by_cases h:x.op = 6
  ·have:less (x :: t) = less t:=by simp [less,h]
   rw [this,run_less t st]
   simp [runW,stepW,h]
  ·have:less (x :: t) = x :: less t:=by simp [less,h]
   rw [this]
   simp only [runW]
   cases stepW x st with
   | ok st'=>exact run_less t st'
   | error e=>rfl
theorem walk_less:∀ (t:List StepA) (n m:Int),walkB n t = some m→walkB n (less t) = some m
 | [],n,m,h=>h
 | x :: t,n,m,h=>by
  simp only [walkB] at h
  split at h
  ·rename_i hc
   by_cases h6:x.op = 6
   ·have:less (x :: t) = less t:=by simp [less,h6]
    rw [this]
    have ht:takesI x.op = 1:=by rw [h6]; rfl
    rw [ht] at h
    have:=walk_less t _ m h
    rwa [show n - 1 + 1 = n from by omega] at this
   ·have:less (x :: t) = x :: less t:=by simp [less,h6]
    rw [this]
    simp only [walkB]
    rw [if_pos hc]
    exact walk_less t _ m h
  ·cases h
theorem less_len (t:List StepA):(less t).length ≤ t.length:=List.length_filter_le _ _
theorem sound_less {t:List StepA} (h:soundB t = true):soundB (less t) = true:=by
 unfold soundB at h ⊢
 simp only [Bool.and_eq_true,decide_eq_true_eq] at h ⊢
 exact ⟨walk_less _ _ _ h.1,Nat.le_trans (less_len t) h.2⟩
theorem evalR_less {t:List StepA} (h:soundB t = true):evalR (less t) = evalR t:=by
 unfold evalR
 rw [h,sound_less h,run_less]
theorem less_num {t:List StepA} (h:NumOk t):NumOk (less t):=fun s hs=>h s (List.mem_filter.1 hs).1
structure NtH (l:List StepA) (V:AV) (h:AHeap):Prop where
 g:Grow h 6 (l.flatMap StepA.cs) l.length V
 rot:h.rot = 0
 ro:h.ro = 0
theorem loop275 {up:AV} {own:Own} {t:List StepA} (ht:t.length < 100000):∀ (r:List StepA) (i:Nat) (l:List StepA) (V:AV) (h:AHeap),t.drop i = r→l.length ≤ i→NtH l V h →
  ∃ h' V',NtH (l++less r) V' h'∧∀ F,mask k275_0 F = s275_0 up (.vs own t.length (t.flatMap StepA.cs)) V (.int .i64 i)→EvCode E (.loop k275_0 l275_0) F h = some (.exit 0,x275_0 up (.vs own t.length (t.flatMap StepA.cs)) V',h'):=by
 intro r
 induction r with
 | nil=>
  intro i l V h hr hl N
  have hi:t.length ≤ i:=by simpa using hr
  refine ⟨h,V,by simpa [less] using N,fun F hF=>?_⟩
  rw [EvCode_loop,hF]
  have:¬ (i:Int) < t.length:=by omega
  simp [l275_0,s275_0,x275_0,this]
 | cons x r ih=>
  intro i l V h hr hl N
  have hi:i < t.length:=by
   rcases Nat.lt_or_ge i t.length with h' | h'
   ·exact h'
   ·rw [List.drop_eq_nil_of_le h'] at hr; cases hr
  have hx:t[i] = x:=by
   rw [List.drop_eq_getElem_cons hi] at hr
   exact (List.cons.inj hr).1
  have hr':t.drop (i + 1) = r:=by
   rw [List.drop_eq_getElem_cons hi] at hr
   exact (List.cons.inj hr).2
  have hlen:(t.flatMap StepA.cs).length = t.length * 6:=fm_len StepA.len t
  have hel:((t.flatMap StepA.cs).drop (i * 6)).take 6 = x.cs:=by rw [fm_el StepA.len hi,hx]
  have hel1:((t.flatMap StepA.cs).drop (i * 6)).take 1 = [.int .i64 x.op]:=by rw [fm_at0 StepA.len hi (by omega),hx]; rfl
  have hlt:(i:Int) < t.length:=by omega
  have w:IntKind.i64.wrap ((i:Int) + 1) = ((i + 1:Nat):Int):=w64
  have e1:i * 6 < t.length * 6:=by omega
  have e2:6 ≤ t.length * 6 - i * 6:=by omega
  have e3:1 ≤ t.length * 6 - i * 6:=by omega
  have e4:0 < t.length * 6 - i * 6:=by omega
  by_cases h6:x.op = 6
  ·have hls:less (x :: r) = less r:=by simp [less,h6]
   rw [hls]
   obtain ⟨h',V',N',L⟩:=ih (i + 1) l V h hr' (by omega) N
   refine ⟨h',V',N',fun F hF=>?_⟩
   rw [EvCode_loop,hF]
   generalize EvCode E (.loop k275_0 l275_0) = lp at L ⊢
   generalize t.flatMap StepA.cs = TS at *
   simp [l275_0,s275_0,hlt,hlen,hel1,e1,e3,e4,h6,w]
   exact L _ (by simp [s275_0])
  ·have hls:less (x :: r) = x :: less r:=by simp [less,h6]
   have h6':(x.op != 6) = true:=by simpa using h6
   obtain ⟨ts,v',a1,a2,a3⟩:=grow_app (bytes:=56) (m:=1) (xs:=x.cs) N.g (by rw [N.rot]; omega) (by omega) (by omega) (by omega) (by rw [StepA.len]) (StepA.all x)
   have N2:NtH (l++[x]) v' (h.toks_ ts):=⟨by simpa using a2,N.rot,N.ro⟩
   obtain ⟨h',V',N',L⟩:=ih (i + 1) (l++[x]) v' (h.toks_ ts) hr' (by simp; omega) N2
   refine ⟨h',V',by rw [hls]; simpa using N',fun F hF=>?_⟩
   have lx:=StepA.len x
   have ax:=StepA.all x
   have sx:setCells 0 x.cs [.int .i64 0,.int .i64 0,.int .i64 0,.int .i64 0,.int .i64 0,.str []] = x.cs:=setCells_full (by rw [lx]; rfl)
   rw [EvCode_loop,hF]
   generalize EvCode E (.loop k275_0 l275_0) = lp at L ⊢
   generalize t.flatMap StepA.cs = TS at *
   generalize x.cs = X at *
   simp [-den,l275_0,s275_0,hlt,hlen,hel,hel1,e1,e2,e3,e4,h6',w,lx,sx,a1]
   exact L _ (by simp [s275_0])
theorem NtH.tree {l:List StepA} {V:AV} {h:AHeap} (N:NtH l V h):TreeV V l:=by
 rcases N.g with ⟨rfl,h1,h2⟩ | ⟨k,rfl,_⟩
 ·exact .inl ⟨rfl,List.eq_nil_of_length_eq_zero h2⟩
 ·exact .inr ⟨_,rfl⟩
theorem stepsV_vs (t:Tr):∃ own,stepsV t.steps = .vs own t.steps.length (t.steps.flatMap StepA.cs):=by
 rcases stepsV_tree t.steps with ⟨_,h⟩ | ⟨own,h⟩
 ·have:=Tr.steps_pos t
  rw [h] at this; simp at this
 ·exact ⟨own,h⟩
set_option maxRecDepth 20000 in
set_option maxHeartbeats 1000000 in
theorem evalNotes_eq (H:Has 275 E) {v:AV} {L:List Int} (hv:IntsV v L):EvClosed E (.fn (.func 275) [] []) [v] = some (.bool true):=by
 obtain ⟨v',sv,hv'⟩:=ints_shut hv
 rw [EvClosed_eq H.c275 rfl (vs:=[v']) (by simp [sv]),EvFn_eq]
 have haw:=awake278_eq (H.to 278)
 have hm:=made_eq (H.to 163) hv'
 obtain ⟨k1,k2,k3⟩:=madeT_ok L
 have hn:=tree_num k1 k2
 have hs:=sound_steps k1 k3
 obtain ⟨own,hsv⟩:=stepsV_vs (madeT L)
 rw [hsv] at hm
 generalize (madeT L).steps = t at *
 obtain ⟨h',V',N,lp⟩:=loop275 (E:=E) (up:=.bool true) (own:=own) (t:=t) (by omega) t 0 [] .nils heap0 rfl (by simp) ⟨grow_nil _ _,rfl,rfl⟩
 rw [List.nil_append] at N
 have q1:=eval283 (H.to 283) (v:=.vs own t.length (t.flatMap StepA.cs)) (.inr ⟨own,rfl⟩) (by omega) hn
 have q2:=eval283 (H.to 283) N.tree (by have:=less_len t; omega) (less_num hn)
 rw [evalR_less hs] at q2
 have R:=rs_f (r:=evalR t) (fun w hw=>evalR_wo hn hw)
 have hro:=N.ro
 have m1:¬ h'.blks.length = h'.blks.length + 1:=by omega
 rw [R.rs] at q1 q2
 have r1:=R.len
 have r2:=R.all
 have r3:=R.take
 have r4:=R.set
 have r5:=R.eq
 clear R
 generalize eW (evalR t) = e at *
 generalize iC (lW (evalR t)) = cs at *
 generalize t.flatMap StepA.cs = TS at *
 simp only [Int.natCast_zero] at lp
 simp [f275,start,EvCall_closed H.c278 rfl,EvCall_closed H.c163 rfl,haw,hm]
 rw [lp _ (by simp [s275_0])]
 simp [x275_0,EvCall_closed H.c283 rfl,q1,q2,r1,r2,r3,r4,r5,hro,push_setk]
end Go.Pv
/- A law's arguments: one alone; a struct of five whole numbers and a text. Conditions: what the program's types are; theorems. -/
namespace Go.Pv
open Go.RowKit Go.ChangeShapes Go.WideShapes Go.ChangeMaps Go.WideElems Go.Deep Go.Joins
variable {H:Type} {enc:TypeId × Value→H} {T:Tie} {W:World} {t e:TypeId} {v:Value} {d:DataW H} {ps:List MemPlace} {b0:Nat}
theorem trodAll_one1 {P:Program} {w:World} {base:Nat} {spare:Nat→Bool} {held:Bool} {t:TypeId} {args:Array Value} {ds:List (DataW H)} {ps:List MemPlace} (h:DataW.TrodAll enc P w base spare held [t] args.toList ds ps):
  ∃ v d p,args = #[v]∧ds = [d]∧ps = p∧DataW.Trod enc P w base spare held t v d p:=by
 obtain ⟨v,d,h1,h2,h3⟩:=trodAll_one h
 exact ⟨v,d,ps,h1,h2,rfl,h3⟩
variable {f0 f1 f2 f3 f4 f5:Field}
end Go.Pv
