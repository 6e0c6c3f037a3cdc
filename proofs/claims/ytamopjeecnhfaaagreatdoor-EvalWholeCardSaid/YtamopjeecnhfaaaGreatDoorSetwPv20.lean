/- A part of the proof: an evaluator of the program's code, and that it is sound. Conditions: none; definitions and theorems that the statement's proof uses. -/
import Derived.Test.YtamopjeecnhfaaaGreatDoorSetwPv11
import Derived.LoopNIn
import Derived.RecoverIn
import Derived.ProofKit
/- The evaluator is sound: what it says of a call, a frame, a code, the model does. Conditions: EnvOk; theorems. -/
namespace Go.Pv
open Go.RowKit
variable {T:Tie} {R:Nat→Bool} {E:Env} {G:Ghost} {h:AHeap} {w:World} {F:Fr} {a:Act}
def CodeSim (T:Tie) (E:Env) (n:Nat):Prop:=
 ∀ (sc:SCode) (F:Fr) (h:AHeap) (x:AExit) (F':Fr) (h':AHeap),evCode E n sc F h = some (x,F',h')→∀ (K:Keeps) (c:Code),cCode T K c = some sc →
  ∀ (r:Option Nat) (lo:Nat) (G:Ghost) (w:World) (a:Act),St T E r lo G h w F a→c.wpIn (FC r) 0 T.P (Post T E r lo G w x F' h') a w
def LoopSim (T:Tie) (E:Env) (n:Nat):Prop:=
 ∀ (keep:List Bool) (sc:SCode) (F:Fr) (h:AHeap) (x:AExit) (F':Fr) (h':AHeap),evCode E n (.loop keep sc) F h = some (x,F',h')→∀ (K:Keeps) (c:Code),cCode T K c = some sc →
  ∀ (r:Option Nat) (lo:Nat) (G:Ghost) (w:World) (a:Act) (Q:Exit→Act→World→Prop),St T E r lo G h w F a→(∀ e a' w',Post T E r lo G w x F' h' e a' w'→Q e a' w')→Code.roundsIn (FC r) 0 T.P c Q n a w
def FnSim (T:Tie) (E:Env) (n:Nat):Prop:=
 ∀ (sf:SFunc) (args:List AV) (h:AHeap) (c:CRes) (h':AHeap),evFn E n sf args h = some (c,h')→∀ (K:Keeps) (f:Func) (fi:Nat),T.P.funcs[fi]? = some f→cFunc T K sf.mode f = some sf →
  ∀ (G:Ghost) (w:World) (l:List Value),Inv T E G h w→RepL T G w args l→CallsIn (FC none) 0 T.P fi ⟨l⟩ w (Ends T E G w c h')
def RoundSim (T:Tie) (E:Env) (n:Nat):Prop:=
 ∀ (li:Nat) (args:List AV) (h:AHeap) (c:CRes) (h':AHeap),evRound E n li args h = some (c,h') →
  ∀ (G:Ghost) (w:World) (l:List Value) (b:Nat),Inv T E G h w→RepL T G w args l→G.mu[li]? = some b →
   ∃ fn tmps assign body,(Instr.yield b ⟨l⟩).run T.P w = .ok (.round b fn tmps assign body) w∧RoundIn (FC none) 0 T.P b fn tmps assign body w (Ends T E G w c h')
def FuncSim (T:Tie) (E:Env) (n:Nat):Prop:=
 ∀ (j:Nat) (first caps args:List AV) (h:AHeap) (c:CRes) (h':AHeap),evCall E n (.fn (.func j) first caps) args h = some (c,h') →
  ∀ (G:Ghost) (w:World) (fv:Value) (l:List Value),Inv T E G h w→RepV T G w (.fn (.func j) first caps) fv→RepL T G w args l →
   ∃ d fi as,(Deferred.ofValue fv ⟨l⟩).run T.P w = .ok d w∧(∀ f,Target.leads T.P w d.target d.args = some f→True)∧(invoke d.target d.args).run T.P w = .ok (.enter fi as) w∧CallsIn (FC none) 0 T.P fi as w (Ends T E G w c h')
def ShutSim (T:Tie) (E:Env) (n:Nat):Prop:=
 ∀ (j:Nat) (first caps args:List AV) (v:AV),evClosed E n (.fn (.func j) first caps) args = some v →
  ∀ (G:Ghost) (h:AHeap) (w:World) (fv:Value) (l:List Value),Inv T E G h w→RepV T G w (.fn (.func j) first caps) fv→RepL T G w args l →
   ∃ d fi as,(Deferred.ofValue fv ⟨l⟩).run T.P w = .ok d w∧(∀ f,Target.leads T.P w d.target d.args = some f→True)∧(invoke d.target d.args).run T.P w = .ok (.enter fi as) w∧CallsIn (FC none) 0 T.P fi as w (Ends T E G w (.ret v) h)
theorem cFunc_spec {K:Keeps} {m:SMode} {f:Func} {sf:SFunc} (hc:cFunc T K m f = some sf):
  ∃ c, f.body = some c ∧ f.name ≠ "runtime.NumGoroutine" ∧ cCode T K c = some sf.body ∧ cResults T f.results.toList = some sf.results ∧ sf.ntmps = f.ntmps := by
 unfold cFunc at hc
 split at hc
 ·cases hc
 ·rename_i c hb
  split at hc
  ·rename_i h1 h2
   split at hc
   ·cases hc
   ·rename_i hn
    cases hc
    exact ⟨c,hb,by simpa using hn,h1,h2,rfl⟩
  ·cases hc
theorem meet_func {K:Keeps} {m:SMode} {f:Func} {sf:SFunc} {j:Nat} (hf:T.P.funcs[T.fnum j]? = some f) (hc:cFunc T K m f = some sf) {first caps args:List AV} {fv:Value} {l:List Value} (hr:RepV T G w (.fn (.func j) first caps) fv) (hl:RepL T G w args l):
  ∃ d ls,(Deferred.ofValue fv ⟨l⟩).run T.P w = .ok d w∧(invoke d.target d.args).run T.P w = .ok (.enter (T.fnum j) ⟨ls⟩) w∧RepL T G w (first++args++caps) ls:=by
 simp only [RepV] at hr
 obtain ⟨la,lb,rfl,h1,h2⟩:=hr
 obtain ⟨c,hb,hn,_⟩:=cFunc_spec hc
 refine ⟨{ target:=.fn (.func (T.fnum j)) ⟨lb⟩,args:=⟨la++l⟩ },la++l++lb,?_,?_,RepL.append (RepL.append h1 hl) h2⟩
 ·simp only [Deferred.ofValue,Sem.run_pure]
  congr 2
  simp
 ·simp [invoke,callFunc,hf,hb,hn,Result.andThen]
theorem meet_ext {f : Func} {c : Code} {j : Nat} (hf : T.P.funcs[T.fnum j]? = some f) (hb : f.body = some c) (hn : f.name ≠ "runtime.NumGoroutine") {first caps args : List AV} {fv : Value} {l : List Value} (hr : RepV T G w (.fn (.func j) first caps) fv) (hl : RepL T G w args l) :
  ∃ d ls,(Deferred.ofValue fv ⟨l⟩).run T.P w = .ok d w∧(invoke d.target d.args).run T.P w = .ok (.enter (T.fnum j) ⟨ls⟩) w∧RepL T G w (first++args++caps) ls:=by
 simp only [RepV] at hr
 obtain ⟨la,lb,rfl,h1,h2⟩:=hr
 refine ⟨{ target:=.fn (.func (T.fnum j)) ⟨lb⟩,args:=⟨la++l⟩ },la++l++lb,?_,?_,RepL.append (RepL.append h1 hl) h2⟩
 ·simp only [Deferred.ofValue,Sem.run_pure]
  congr 2
  simp
 ·simp [invoke,callFunc,hf,hb,hn,Result.andThen]
theorem shut_of_closed (O:EnvOk T E) {n:Nat} (hfn:FnSim T E n):ShutSim T E (n + 1):=by
 intro j first caps args v he G h w fv l I hr hl
 simp only [evClosed] at he
 split at he
 ·rename_i g hg
  simp only [Option.bind_eq_some_iff] at he
  obtain ⟨vs,hsh,hgv⟩:=he
  obtain ⟨f,c,hf,hb,hn,hx⟩:=O.ext j g hg
  obtain ⟨d,ls,hd,hinv,hls⟩:=meet_ext hf hb hn hr hl
  have hls':RepL T G w vs ls:=shutL_rep (G:=G) (G':=G) (shut_own fun b m hb=>⟨m,hb,Nat.le_refl _⟩) _ _ _ hsh hls
  refine ⟨d,_,_,hd,fun _ _=>trivial,hinv,CallsIn.mono (hx vs v hgv G w ls I.glob hls') fun e w' hE=>?_⟩
  obtain ⟨hgr,u,rfl,hu⟩:=hE
  obtain ⟨X,I'⟩:=I.grown hgr
  exact ⟨G,X,I',u,rfl,hu G w'⟩
 split at he
 ·cases he
 ·rename_i sf hsf
  split at he
  ·rename_i as hmode hsh
   obtain ⟨K,f,hf,hc⟩:=O.fn j sf hsf
   obtain ⟨d,ls,hd,hinv,hls⟩:=meet_func hf hc hr hl
   unfold closedEnd at he
   split at he
   ·rename_i u h1 hev
    have hls':RepL T G.own w as ls:=shutL_rep (G:=G) (G':=G.own) (shut_own fun b m hb=>⟨m,hb,Nat.le_refl _⟩) _ _ _ hsh hls
    have hcall:=hfn sf as heap0 _ _ hev K f (T.fnum j) hf hc G.own w ls (I.own O) hls'
    refine ⟨d,_,_,hd,fun _ _=>trivial,hinv,CallsIn.mono hcall fun e w' hE=>?_⟩
    obtain ⟨G1,X,I1,q,rfl,hq⟩:=hE
    obtain ⟨X2,I2⟩:=I.back O X I1
    exact ⟨_,X2,I2,q,rfl,shut_rep (G:=G1) (G':=G.back G1) (shut_own fun b m hb=>⟨m,hb,Nat.le_refl _⟩) _ _ _ he hq⟩
   ·cases he
  ·cases he
theorem func_of (O:EnvOk T E) {n:Nat} (hfn:FnSim T E n) (hsh:ShutSim T E n):FuncSim T E (n + 1):=by
 intro j first caps args h c h' he G w fv l I hr hl
 simp only [evCall] at he
 split at he
 ·simp only [Option.map_eq_some_iff] at he
  obtain ⟨v,h1,h2⟩:=he
  cases h2
  exact hsh j first caps args v h1 G h w fv l I hr hl
 split at he
 ·cases he
 ·rename_i sf hsf
  split at he
  ·obtain ⟨K,f,hf,hc⟩:=O.fn j sf hsf
   obtain ⟨d,ls,hd,hinv,hls⟩:=meet_func hf hc hr hl
   exact ⟨d,_,_,hd,fun _ _=>trivial,hinv,hfn sf _ h _ _ he K f (T.fnum j) hf hc G w ls I hls⟩
  ·simp only [Option.map_eq_some_iff] at he
   obtain ⟨v,h1,h2⟩:=he
   cases h2
   exact hsh j first caps args v h1 G h w fv l I hr hl
  ·obtain ⟨K,f,hf,hc⟩:=O.fn j sf hsf
   obtain ⟨d,ls,hd,hinv,hls⟩:=meet_func hf hc hr hl
   unfold readEnd at he
   split at he
   ·rename_i u h1 hev
    simp only [Option.map_eq_some_iff] at he
    obtain ⟨v,hv,h2⟩:=he
    cases h2
    have hcall:=hfn sf _ h.still _ _ hev K f (T.fnum j) hf hc (G.still h) w ls I.still hls.still
    refine ⟨d,_,_,hd,fun _ _=>trivial,hinv,CallsIn.mono hcall fun e w' hE=>?_⟩
    obtain ⟨G1,X,I1,q,rfl,hq⟩:=hE
    obtain ⟨X2,I2⟩:=I.backStill O X I1
    exact ⟨_,X2,I2,q,rfl,shut_rep (shut_still I X) _ _ _ hv hq⟩
   ·cases he
theorem call_of {n:Nat} (hfs:FuncSim T E (n + 1)) (hrd:RoundSim T E n):CallSim T E (evCall E (n + 1)):=by
 intro f args h c h' he r G w fv l I hr hl
 have he0:=he
 simp only [evCall] at he
 split at he
 ·rename_i j first caps
  obtain ⟨d,fi,as,h1,_,h2,h3⟩:=hfs j first caps args h c h' he0 G w fv l I hr hl
  exact ⟨d,h1,.inl ⟨fi,as,h2,h3⟩⟩
 ·rename_i li
  simp only [RepV,RepL] at hr
  obtain ⟨b,x,y,hb,rfl,rfl,rfl⟩:=hr
  obtain ⟨fn,tmps,assign,body,h1,h2⟩:=hrd li args h c h' he G w l b I hl hb
  refine ⟨{ target:=.fn (.yield b) #[],args:=⟨l⟩ },?_,.inr ⟨b,fn,tmps,assign,body,?_,h2⟩⟩
  ·simp only [Deferred.ofValue,Sem.run_pure]
   congr 2
   simp
  ·simp only [invoke]
   exact h1
 ·cases he
theorem closed_of {n:Nat} (hsh:ShutSim T E n):ClosedSim T E (evClosed E n):=by
 intro f args h c h' he r G w fv l I hr hl
 simp only [Option.map_eq_some_iff] at he
 obtain ⟨v,h1,h2⟩:=he
 cases h2
 cases n with
 | zero=>simp only [evClosed] at h1; cases h1
 | succ n=>
  have h10:=h1
  simp only [evClosed] at h1
  split at h1
  ·rename_i j first caps
   obtain ⟨d,fi,as,q1,_,q2,q3⟩:=hsh j first caps args v h10 G h w fv l I hr hl
   exact ⟨d,q1,.inl ⟨fi,as,q2,q3⟩⟩
  ·cases h1
theorem start_rep {args:List AV} {l:List Value} {sf:SFunc} {fn:Func} (hn:sf.ntmps = fn.ntmps) (I:Inv T E G h w) (hl:RepL T G w args l):
  St T E none w.heap.size G h w (start sf args) { tmps:=(⟨l⟩:Array Value)++Array.replicate (fn.ntmps - (⟨l⟩:Array Value).size) undef,defers:=[] }:=by
 refine { inv:=I,tmps:=?_,ds:=by simp only [start,RepD],low:=Nat.le_refl _,rnd:=by simp [start],nom:=fun _=>rfl,around:=fun l hl=>by cases hl }
 have hlen:=hl.length
 simp only [start,Array.toList_append,Array.toList_replicate,hn]
 have hsz:(⟨l⟩:Array Value).size = args.length:=by simpa using hlen
 rw [hsz]
 refine RepL.append hl ?_
 generalize fn.ntmps - args.length = m
 induction m with
 | zero=>simp [RepL]
 | succ m ih=>
  simp only [List.replicate_succ,RepL,RepV]
  exact ⟨_,_,rfl,trivial,ih⟩
def RepU (T:Tie) (G:Ghost) (w:World):Option AV→FrameMode→Prop
 | none,u=>u = .returning∨∃ x,u = .panicking [{ v:=x,recovered:=true }]
 | some v,u=>∃ x,u = .panicking [{ v:=x,recovered:=false }]∧RepV T G w v x
def RepW (T:Tie) (G:Ghost) (w:World):Option AV→FrameMode→Prop
 | none,u=>u = .returning
 | some v,u=>∃ x,u = .panicking [{ v:=x,recovered:=false }]∧RepV T G w v x
theorem RepW.toU {p:Option AV} {u:FrameMode} (hp:RepW T G w p u):RepU T G w p u:=by
 cases p with
 | none=>exact .inl hp
 | some v=>exact hp
theorem RepU.settle {p:Option AV} {u:FrameMode} (hp:RepU T G w p u):RepW T G w p (Go.settle u):=by
 cases p with
 | none=>
  rcases hp with rfl | ⟨x,rfl⟩
  ·rfl
  ·rfl
 | some v=>
  obtain ⟨x,rfl,h1⟩:=hp
  exact ⟨x,rfl,h1⟩
theorem RepU.mono {G':Ghost} {w':World} (K:Keep G w G' w') {p:Option AV} {u:FrameMode} (hp:RepU T G w p u):RepU T G' w' p u:=by
 cases p with
 | none=>exact hp
 | some v=>
  obtain ⟨x,rfl,h1⟩:=hp
  exact ⟨x,rfl,RepV.mono K _ _ h1⟩
theorem RepW.mono {G':Ghost} {w':World} (K:Keep G w G' w') {p:Option AV} {u:FrameMode} (hp:RepW T G w p u):RepW T G' w' p u:=by
 cases p with
 | none=>exact hp
 | some v=>
  obtain ⟨x,rfl,h1⟩:=hp
  exact ⟨x,rfl,RepV.mono K _ _ h1⟩
theorem RepW.ne_run {p:Option AV} {u:FrameMode} (hp:RepW T G w p u):u ≠ .run:=by
 cases p with
 | none=>rw [show u = .returning from hp]; simp
 | some v=>obtain ⟨x,rfl,_⟩:=hp; simp
def PostS (T:Tie) (E:Env) (lo:Nat) (G:Ghost) (w:World) (c₀:Frame) (cs:List Frame) (x:AExit) (F':Fr) (p':Option AV) (h':AHeap) (e:Exit) (a':Act) (cs':List Frame) (w':World):Prop:=
 ∃ u' G',cs' = { c₀ with mode:=u' } :: cs∧Ext G w G' w'∧St T E none lo G' h' w' F' a'∧RepX T G' w' x e∧RepU T G' w' p' u'
theorem PostS.trans {lo:Nat} {c₀:Frame} {cs:List Frame} {x:AExit} {F':Fr} {p':Option AV} {h':AHeap} {e:Exit} {a':Act} {cs':List Frame} {w' w1:World} {G1:Ghost} (X:Ext G w G1 w1) (hp:PostS T E lo G1 w1 c₀ cs x F' p' h' e a' cs' w'):PostS T E lo G w c₀ cs x F' p' h' e a' cs' w':=by
 obtain ⟨u',G',h1,h2,h3⟩:=hp
 exact ⟨u',G',h1,X.trans h2,h3⟩
theorem cOp_recover {o:Oper} (hc:cOp T R o = some .recover):∃ c,o.op = .call c∧c.callee = .builtin .recover∧c.args.toList = []:=by
  unfold cOp at hc
  split at hc
  all_goals first
    | (rename_i c ho
       split at hc
       · rename_i b hcal
         unfold cBuiltin at hc
         repeat' split at hc
         all_goals first
           | (cases hc; exact ⟨_,ho,hcal,by assumption⟩)
           | (simp at hc; done)
       · simp at hc)
    | (exfalso
       repeat' split at hc
       all_goals simp at hc)
theorem sim_opsR {lo:Nat} {c₀:Frame} {cs:List Frame} {all:Array Oper} {F':Fr} {p':Option AV} {h':AHeap} (Q:Exit→Act→List Frame→World→Prop):
  ∀ (k i:Nat) (sos:List SOper) (p:Option AV) (G:Ghost) (h:AHeap) (w:World) (F:Fr) (a:Act) (u:FrameMode),i + k = all.size→cOpers T R all.toList (all.toList.drop i) = some sos→evOpsR E p sos F h = some (p',F',h')→St T E none lo G h w F a→RepU T G w p u →
   (∀ G' a' w' u',Ext G w G' w'→St T E none lo G' h' w' F' a'→RepU T G' w' p' u'→Q .normal a' ({ c₀ with mode:=u' } :: cs) w') →
   wpOpsSIn (FC none) 0 T.P all Q (List.range' i k) a ({ c₀ with mode:=u } :: cs) w
 | 0,i,sos,p,G,h,w,F,a,u,hi,hc,he,S,hu,hQ=>by
  rw [List.drop_eq_nil_of_le (by simp; omega)] at hc
  simp only [cOpers] at hc
  cases hc
  simp only [evOpsR] at he
  cases he
  simp only [List.range'_zero,wpOpsSIn]
  exact hQ G a w u (Ext.refl S.inv.vlt) S hu
 | k + 1,i,sos,p,G,h,w,F,a,u,hi,hc,he,S,hu,hQ=>by
  have hlt:i < all.size:=by omega
  rw [List.drop_eq_getElem_cons (by simpa using hlt)] at hc
  simp only [cOpers] at hc
  split at hc
  ·rename_i op g sos' h1 h2 h3
   cases hc
   have ho:all[i]? = some all[i]:=Array.getElem?_eq_getElem hlt
   have h1':cOp T R all[i] = some op:=by simpa using h1
   have h2':cGuard all.toList all[i].guard = some g:=by simpa using h2
   simp only [List.range'_succ,wpOpsSIn,ho]
   simp only [evOpsR,Array.getElem_toList] at he
   refine ⟨fun _ _=>trivial,?_⟩
   split at he
   ·cases he
   ·rename_i hwt
    simp only [wanted_rep h2' S.tmps hwt,Bool.false_eq_true,if_false]
    exact sim_opsR Q k (i + 1) sos' p G h w _ _ u (by omega) h3 he (S.put rep_unasked _) hu hQ
   ·rename_i hwt
    simp only [wanted_rep h2' S.tmps hwt,if_true]
    split at he
    ·obtain ⟨c,hoc,hcal,hargs⟩:=cOp_recover h1'
     have hrun:(execOp a.eval all[i]).run T.P w = .ok .recover w:=by
      have ha0:c.args = #[]:=by rw [← Array.toArray_toList (xs:=c.args),hargs]
      simp [execOp,hoc,resolve,hcal,invoke,builtin,ha0]
     rw [hrun]
     split at he
     ·rename_i v
      obtain ⟨x,rfl,hx⟩:=hu
      simp only [recoverD]
      exact sim_opsR Q k (i + 1) sos' none G h w _ _ _ (by omega) h3 he (S.put hx _) (.inr ⟨x,rfl⟩) hQ
     ·have hrec:recoverD ({ c₀ with mode:=u } :: cs) = none:=by
       rcases hu with rfl | ⟨x,rfl⟩ <;> simp [recoverD]
      simp only [hrec]
      exact sim_opsR Q k (i + 1) sos' none G h w _ _ u (by omega) h3 he (S.put (by simp only [RepV]) _) hu hQ
    ·split at he
     ·rename_i v h1v he1
      obtain ⟨rv,w',G',hr,X,I',hrv⟩:=sim_ev1 S.inv S.tmps h1' he1
      rcases hr with hr | ⟨hr,rfl⟩
      ·rw [hr]
       exact sim_opsR Q k (i + 1) sos' p G' h1v w' _ _ u (by omega) h3 he ((S.turn X I').put hrv _) (hu.mono X.keep) fun G2 a2 w2 u2 X2=>hQ G2 a2 w2 u2 (X.trans X2)
      ·rw [hr]
       exact sim_opsR Q k (i + 1) sos' p G' h1v w' _ _ u (by omega) h3 he ((S.turn X I').put hrv _) (hu.mono X.keep) fun G2 a2 w2 u2 X2=>hQ G2 a2 w2 u2 (X.trans X2)
     ·cases he
  ·cases hc
def SSim (T:Tie) (E:Env) (n:Nat):Prop:=
 ∀ (sc:SCode) (F:Fr) (p:Option AV) (h:AHeap) (x:AExit) (F':Fr) (p':Option AV) (h':AHeap),evS E n sc F p h = some (x,F',p',h')→∀ (K:Keeps) (c:Code),cCode T K c = some sc →
  ∀ (lo:Nat) (G:Ghost) (w:World) (a:Act) (u:FrameMode) (c₀:Frame) (cs:List Frame),St T E none lo G h w F a→RepU T G w p u→c.wpSIn (FC none) 0 T.P (PostS T E lo G w c₀ cs x F' p' h') a ({ c₀ with mode:=u } :: cs) w
theorem wpSIn_mono {c:Code} {Fc:Fence} {n:Nat} {P:Program} {Q Q':Exit→Act→List Frame→World→Prop} {a:Act} {cs:List Frame} {w:World} (hc:c.wpSIn Fc n P Q a cs w) (hq:∀ e a' cs' w',Q e a' cs' w'→Q' e a' cs' w'):c.wpSIn Fc n P Q' a cs w:=
 fun b k hb hr hF hroom=>let ⟨e,a',cs',w',hl,q,r⟩:=hc b k hb hr hF hroom; ⟨e,a',cs',w',hl,hq _ _ _ _ q,r⟩
theorem s_gen {n:Nat} (hcode:CodeSim T E n) {sc:SCode} {p p':Option AV} {x:AExit} {F':Fr} {h':AHeap} (he:(evCode E n sc F h).map (fun r=>(r.1,r.2.1,p,r.2.2)) = some (x,F',p',h')) {K:Keeps} {c:Code} (hc:cCode T K c = some sc)
  {lo:Nat} {u:FrameMode} (c₀:Frame) (cs:List Frame) (S:St T E none lo G h w F a) (hu:RepU T G w p u):c.wpSIn (FC none) 0 T.P (PostS T E lo G w c₀ cs x F' p' h') a ({ c₀ with mode:=u } :: cs) w:=by
 simp only [Option.map_eq_some_iff] at he
 obtain ⟨⟨x1,F1,h1⟩,q1,q2⟩:=he
 cases q2
 refine wpSIn_of_wpIn rfl (wpIn_mono (hcode _ _ _ _ _ _ q1 K c hc none lo G w a S) fun e a' w' hp=>?_)
 obtain ⟨G',X,S',hx⟩:=hp
 exact ⟨u,G',rfl,X,S',hx,hu.mono X.keep⟩
theorem s_of {n:Nat} (hcode:CodeSim T E n) (hS:SSim T E n):SSim T E (n + 1):=by
 intro sc F p h x F' p' h' he K c hc lo G w a u c₀ cs S hu
 have hc0:=hc
 cases c with
 | seq p1 q1=>
  simp only [cCode] at hc
  split at hc
  ·rename_i sp sq h1 h2
   cases hc
   simp only [evS] at he
   refine wpSIn_seq ?_
   cases hp:evS E n sp F p h with
   | none=>rw [hp] at he; simp [thenS] at he
   | some o=>
    obtain ⟨x1,F1,p1',hh1⟩:=o
    rw [hp] at he
    refine wpSIn_mono (hS _ _ _ _ _ _ _ _ hp K p1 h1 lo G w a u c₀ cs S hu) fun e a1 cs1 w1 hP=>?_
    cases x1 with
    | normal=>
     simp only [thenS] at he
     obtain ⟨u1,G1,rfl,X1,S1,hx,hu1⟩:=hP
     simp only [RepX] at hx
     subst hx
     exact wpSIn_mono (hS _ _ _ _ _ _ _ _ he K q1 h2 lo G1 w1 a1 u1 c₀ cs S1 hu1) fun e a2 cs2 w2 hq=>PostS.trans X1 hq
    | exit id=>
     simp only [thenS] at he
     cases he
     have hP0:=hP
     obtain ⟨u1,G1,_,X1,S1,hx,hu1⟩:=hP
     simp only [RepX] at hx
     subst hx
     exact hP0
    | ret=>
     simp only [thenS] at he
     cases he
     have hP0:=hP
     obtain ⟨u1,G1,_,X1,S1,hx,hu1⟩:=hP
     simp only [RepX] at hx
     subst hx
     exact hP0
    | panic v=>
     simp only [thenS] at he
     cases he
     have hP0:=hP
     obtain ⟨u1,G1,_,X1,S1,hx,hu1⟩:=hP
     simp only [RepX] at hx
     obtain ⟨y,rfl,_⟩:=hx
     exact hP0
  ·cases hc
 | region id ops draw=>
  cases draw with
  | false=>
   simp only [cCode,Option.map_eq_some_iff] at hc
   obtain ⟨sops,h1,rfl⟩:=hc
   simp only [evS] at he
   split at he
   ·simp only [Option.map_eq_some_iff] at he
    obtain ⟨⟨p1,F1,hh1⟩,q1,q2⟩:=he
    cases q2
    refine wpSIn_region ?_
    rw [List.range_eq_range']
    exact sim_opsR (all:=ops) (PostS T E lo G w c₀ cs .normal F1 p1 hh1) ops.size 0 sops p G h w F a u (by omega) (by simpa using h1) q1 S hu fun G' a' w' u' X S' hu'=>⟨u',G',rfl,X,S',rfl,hu'⟩
   ·exact s_gen hcode he hc0 c₀ cs S hu
  | true=>
   simp only [cCode] at hc
   split at hc
   ·split at hc
    ·split at hc
     ·cases hc
      simp only [evS] at he
      exact s_gen hcode he hc0 c₀ cs S hu
     ·split at hc
      ·cases hc
       simp only [evS] at he
       exact s_gen hcode he hc0 c₀ cs S hu
      ·cases hc
    ·split at hc
     ·split at hc
      ·cases hc
       simp only [evS] at he
       exact s_gen hcode he hc0 c₀ cs S hu
      ·cases hc
     ·cases hc
   ·cases hc
 | skip=>
  simp only [cCode] at hc
  cases hc
  simp only [evS] at he
  exact s_gen hcode he hc0 c₀ cs S hu
 | label l=>
  simp only [cCode] at hc
  cases hc
  simp only [evS] at he
  exact s_gen hcode he hc0 c₀ cs S hu
 | cond cd p1 q1=>
  simp only [cCode] at hc
  split at hc
  ·cases hc
   simp only [evS] at he
   exact s_gen hcode he hc0 c₀ cs S hu
  ·cases hc
 | block id p1=>
  simp only [cCode,Option.map_eq_some_iff] at hc
  obtain ⟨sp,h1,rfl⟩:=hc
  simp only [evS] at he
  exact s_gen hcode he hc0 c₀ cs S hu
 | loop p1=>
  simp only [cCode,Option.map_eq_some_iff] at hc
  obtain ⟨sp,h1,rfl⟩:=hc
  simp only [evS] at he
  exact s_gen hcode he hc0 c₀ cs S hu
 | rangeFunc g ps p1 q1=>
  simp only [cCode] at hc
  split at hc
  ·cases hc
   simp only [evS] at he
   exact s_gen hcode he hc0 c₀ cs S hu
  ·cases hc
 | exit id=>
  simp only [cCode] at hc
  cases hc
  simp only [evS] at he
  exact s_gen hcode he hc0 c₀ cs S hu
 | scope p1=>
  simp only [cCode,Option.map_eq_some_iff] at hc
  obtain ⟨sp,h1,rfl⟩:=hc
  simp only [evS] at he
  exact s_gen hcode he hc0 c₀ cs S hu
 | ret=>
  simp only [cCode] at hc
  cases hc
  simp only [evS] at he
  exact s_gen hcode he hc0 c₀ cs S hu
 | goto l=>simp [cCode] at hc
 | refuse s=>simp [cCode] at hc
def DefSim (T:Tie) (E:Env) (n:Nat):Prop:=
 ∀ (j:Nat) (args:List AV) (p:Option AV) (h:AHeap) (p':Option AV) (h':AHeap),evDef E n j args p h = some (p',h')→∀ (G:Ghost) (w:World) (l:List Value) (u:FrameMode),Inv T E G h w→RepL T G w args l→RepU T G w p u →
  (∃ f c, T.P.funcs[T.fnum j]? = some f ∧ f.body = some c ∧ f.name ≠ "runtime.NumGoroutine") ∧
  CallsDIn (FC none) 0 T.P (T.fnum j) ⟨l⟩ u w fun e u' w'=>∃ v,e = .returned v∧∃ G',Ext G w G' w'∧Inv T E G' h' w'∧RepU T G' w' p' u'
theorem startD_rep {args:List AV} {l:List Value} {sf:SFunc} {fn:Func} (hn:sf.ntmps = fn.ntmps) (I:Inv T E G h w) (hl:RepL T G w args l):
  St T E none w.heap.size G h w (startD sf args) { tmps:=(⟨l⟩:Array Value)++Array.replicate (fn.ntmps - (⟨l⟩:Array Value).size) undef,defers:=[] }:=by
 have S:=start_rep hn I hl
 exact { inv:=I,tmps:=S.tmps,ds:=S.ds,low:=S.low,rnd:=by simp [startD],nom:=fun _=>rfl,around:=fun l hl=>by cases hl }
theorem def_of (O:EnvOk T E) {n:Nat} (hS:SSim T E n):DefSim T E (n + 1):=by
 intro j args p h p' h' he G w l u I hl hu
 simp only [evDef] at he
 split at he
 ·rename_i sf hx hsf
  obtain ⟨K,f,hf,hc⟩:=O.fn j sf hsf
  obtain ⟨body,hb,hname,hcb,hcr,hnt⟩:=cFunc_spec hc
  refine ⟨⟨f,body,hf,hb,hname⟩,?_⟩
  cases hout:evS E n sf.body (startD sf args) p h with
  | none=>rw [hout] at he; simp [endDef] at he
  | some o=>
   obtain ⟨x,F1,p1,h1⟩:=o
   rw [hout] at he
   refine callsDIn_of_wpSIn hf hb trivial fun c₀ cs hmode=>?_
   have hc0:({ c₀ with mode:=u }:Frame) = c₀:=by subst hmode; rfl
   have hw:=hS _ _ _ _ _ _ _ _ hout K body hcb w.heap.size G w _ u c₀ cs (startD_rep hnt I hl) hu
   rw [hc0] at hw
   refine wpSIn_mono hw fun e a' cs' w' hp=>?_
   obtain ⟨u',G',rfl,X,S,hx,hu'⟩:=hp
   have fin:∀ (hds:F1.ds = []) (vs:List AV),resultsA h1 F1 sf.results = some vs→p' = p1→h' = h1→F1.rnd = .defd→a'.defers = []∧∃ u'',({ c₀ with mode:=u' }:Frame) :: cs = { c₀ with mode:=u'' } :: cs∧∃ v,(results f a'.tmps).run T.P w' = .ok v w' ∧
     (∃ v',(Ending.returned v) = .returned v'∧∃ G',Ext G w G' w'∧Inv T E G' h' w'∧RepU T G' w' p' u''):=by
    intro hds vs hvs hpe hhe hrd
    subst hpe
    subst hhe
    obtain ⟨v,q1,q2⟩:=results_rep S.inv S.tmps hcr hvs
    exact ⟨S.nom hrd,u',rfl,v,q1,v,rfl,G',X,S.inv,hu'⟩
   unfold endDef at he
   split at he
   ·rename_i F2 p2 h2 heq
    cases heq
    simp only [RepX] at hx
    subst hx
    split at he
    ·rename_i hds
     simp only [Option.bind_eq_some_iff] at he
     obtain ⟨vs,q1,q2⟩:=he
     split at q2
     ·rename_i hrd
      cases q2
      exact fin hds vs q1 rfl rfl hrd
     ·cases q2
    ·cases he
   ·rename_i F2 p2 h2 heq
    cases heq
    simp only [RepX] at hx
    subst hx
    split at he
    ·rename_i hds
     simp only [Option.bind_eq_some_iff] at he
     obtain ⟨vs,q1,q2⟩:=he
     split at q2
     ·rename_i hrd
      cases q2
      exact fin hds vs q1 rfl rfl hrd
     ·cases q2
    ·cases he
   ·cases he
 ·cases he
theorem leaves_all {n:Nat} (hdef:DefSim T E n) {fn:Func} {tmps:Array Value} {R:Ending→World→Prop} {G0:Ghost} {w0:World} {as:List AV} {l:List Value} {p':Option AV} {h':AHeap}
  (hend:∀ G' w' u',Ext G0 w0 G' w'→Inv T E G' h' w'→RepL T G' w' as l→RepW T G' w' p' u'→LeavesIn (FC none) 0 T.P fn tmps R [] u' w'):
  ∀ {dl:List Deferred} {ds:List (Nat × List AV)} {p:Option AV} {G:Ghost} {h:AHeap} {w:World} {u:FrameMode},RepD T G w w0.heap.size ds dl→RepW T G w p u→runDefs (evDef E n) ds p h = some (p',h')→Ext G0 w0 G w→Inv T E G h w→RepL T G w as l→LeavesInM (FC none) 0 T.P fn tmps R dl u w
 | [],ds,p,G,h,w,u,hd,hu,hr,X,I,hl=>by
  simp only [RepD] at hd
  subst hd
  simp only [runDefs] at hr
  cases hr
  exact hend G w u X I hl hu
 | d :: dl,ds,p,G,h,w,u,hd,hu,hr,X,I,hl=>by
  simp only [RepD] at hd
  rcases hd with ⟨r,rfl,h2,h3,h4,h5,h6,h7⟩ | ⟨j,as',ds',l',b,rfl,rfl,h3,h4⟩
  ·have hK:Keep G w G (w.putObj r (.deferred none)):=RepV.otherPut (I:=I) h3 _
   refine ⟨hu.ne_run,.inl ⟨r,_,rfl,run_takeDeferred h3,?_⟩⟩
   refine leaves_all hdef hend ?_ (hu.mono hK) hr (X.late h2 _) (I.otherPut h3 h4 _) (RepL.mono hK _ _ hl)
   have hoth:∀ k,k ≠ r→(w.putObj r (.deferred none)).heap[k]? = w.heap[k]?:=fun k hk=>World.putObj_heap_other hk
   have main:∀ (dl:List Deferred) (ds:List (Nat × List AV)),RepD T G w w0.heap.size ds dl→(∀ d' ∈ dl,d' ≠ { target:=.collected r,args:=#[] })→RepD T G (w.putObj r (.deferred none)) w0.heap.size ds dl:=by
    intro dl
    induction dl with
    | nil=>intro ds hq _; simpa only [RepD] using hq
    | cons d dl ih=>
     intro ds hq hne
     simp only [RepD] at hq ⊢
     rcases hq with ⟨r',rfl,q2,q3,q4,q5,q6,q7⟩ | ⟨j,as',ds',l',b,q1,q2,q3,q4⟩
     ·have hrr:r' ≠ r:=fun he=>hne _ List.mem_cons_self (by rw [he])
      exact .inl ⟨r',rfl,q2,(hoth r' hrr).trans q3,q4,q5,q6,ih _ q7 fun d' hd'=>hne d' (List.mem_cons_of_mem _ hd')⟩
     ·exact .inr ⟨j,as',ds',l',b,q1,q2,RepL.mono hK _ _ q3,ih _ q4 fun d' hd'=>hne d' (List.mem_cons_of_mem _ hd')⟩
   exact main dl ds h7 h6
  ·simp only [runDefs] at hr
   split at hr
   ·rename_i p1 h1 hev
    obtain ⟨⟨f,c,hf,hb,hn⟩,hcd⟩:=hdef j as' p h p1 h1 hev G w (l'++b) u I h3 hu.toU
    refine ⟨hu.ne_run,.inr ⟨fun hh=>by simp [FC,Fence.wide] at hh,_,_,T.fnum j,⟨l'++b⟩,rfl,by simp [invoke,callFunc,hf,hb,hn,Result.andThen],fun _ _=>trivial,?_⟩⟩
    refine CallsDIn.mono hcd fun e u' w' hE=>?_
    obtain ⟨v,rfl,G1,X1,I1,hu1⟩:=hE
    exact leaves_all hdef hend (h4.mono X1) hu1.settle hr (X.trans X1) I1 (RepL.mono X1.keep _ _ hl)
   ·cases hr
theorem fn_of {n:Nat} (hcode:CodeSim T E n) (hdef:DefSim T E n):FnSim T E (n + 1):=by
 intro sf args h c h' he K f fi hf hc G w l I hl
 simp only [evFn] at he
 obtain ⟨body,hb,hname,hcb,hcr,hnt⟩:=cFunc_spec hc
 cases hout:evCode E n sf.body (start sf args) h with
 | none=>rw [hout] at he; simp [endFn] at he
 | some o=>
  obtain ⟨x,F1,h1⟩:=o
  rw [hout] at he
  have hw:=hcode _ _ _ _ _ _ hout K body hcb none w.heap.size G w _ (start_rep hnt I hl)
  refine callsIn_of_wp_marks hf hb trivial (wpIn_mono hw fun e a' w' hp=>?_)
  obtain ⟨G',X,S,hx⟩:=hp
  have hret:∀ (p:Option AV) (u:FrameMode),RepW T G' w' p u→endRes sf F1 (runDefs (evDef E n) F1.ds p h1) = some (c,h')→LeavesInM (FC none) 0 T.P f a'.tmps (Ends T E G w c h') a'.defers u w':=by
   intro p u hu hr
   cases hrd:runDefs (evDef E n) F1.ds p h1 with
   | none=>rw [hrd] at hr; simp [endRes] at hr
   | some q=>
    obtain ⟨p2,h2⟩:=q
    rw [hrd] at hr
    refine leaves_all hdef (p':=p2) (h':=h2) (fun G2 w2 u2 X2 I2 hl2 hu2=>?_) S.ds hu hrd X S.inv S.tmps
    cases p2 with
    | none=>
     simp only [endRes,Option.map_eq_some_iff] at hr
     obtain ⟨vs,q1,q2⟩:=hr
     cases q2
     obtain ⟨v,r1,r2⟩:=results_rep I2 hl2 hcr q1
     rw [show u2 = .returning from hu2]
     exact ⟨v,r1,G2,X2,I2,v,rfl,r2⟩
    | some v=>
     simp only [endRes] at hr
     cases hr
     obtain ⟨y,rfl,hy⟩:=hu2
     exact ⟨G2,X2,I2,y,rfl,hy⟩
  unfold endFn at he
  split at he
  ·rename_i F2 h2 heq
   cases heq
   simp only [RepX] at hx
   subst hx
   exact hret none .returning rfl he
  ·rename_i F2 h2 heq
   cases heq
   simp only [RepX] at hx
   subst hx
   exact hret none .returning rfl he
  ·rename_i v F2 h2 heq
   cases heq
   simp only [RepX] at hx
   obtain ⟨y,rfl,hy⟩:=hx
   exact hret (some v) _ ⟨y,rfl,hy⟩ he
  ·cases he
theorem round_of {n:Nat} (hcode:CodeSim T E n):RoundSim T E (n + 1):=by
 intro li args h c h' he G w l b I hl hb
 simp only [evRound] at he
 split at he
 ·rename_i pend tmps params assign body hblk
  split at he
  ·rename_i hlen
   obtain ⟨L,K,hL,hst,hpe,htm,hpa,hca,hcb⟩:=I.blk li _ b hblk hb
   have hsz:(⟨l⟩:Array Value).size = L.params.size:=by
    have:=hl.length
    rw [← Array.length_toList (xs:=L.params),hpa]
    simpa [hlen] using this
   refine ⟨L.fn,_,L.assign,L.body,run_yield hL hsz,?_⟩
   have hzip:(L.params.zip ⟨l⟩).foldl (fun tmps (t,a)=>tmps.setIfInBounds t a) L.tmps = (params.zip l).foldl (fun tmps x=>tmps.setIfInBounds x.1 x.2) L.tmps:=by
    rw [← Array.foldl_toList,Array.toList_zip,hpa]
   rw [hzip]
   refine roundIn_of_wpIn trivial ?_
   show L.assign.wpIn (FC (some b)) 0 T.P _ _ w
   cases hA:evCode E n assign { t:=setAll params args tmps,ds:=[],rnd:=.round } h with
   | none=>rw [hA] at he; simp [beginRd,endRd] at he
   | some o=>
    obtain ⟨x1,F1,h1⟩:=o
    rw [hA] at he
    have S0:St T E (some b) w.heap.size G h w { t:=setAll params args tmps,ds:=[],rnd:=.round } { tmps:=(params.zip l).foldl (fun tmps x=>tmps.setIfInBounds x.1 x.2) L.tmps,defers:=[] }:={
     inv:=I,tmps:=setAll_rep hlen.symm hl htm,ds:=by simp only [RepD],low:=Nat.le_refl _,rnd:=by simp,nom:=fun _=>rfl,around:=fun l' hl'=>by cases hl'; exact ⟨L,hL⟩ }
    have hw:=hcode _ _ _ _ _ _ hA K L.assign hca (some b) w.heap.size G w _ S0
    refine wpIn_mono hw fun e a1 w1 hp=>?_
    obtain ⟨G1,X1,S1,hx1⟩:=hp
    cases x1 with
    | exit id=>simp [beginRd,endRd] at he
    | ret=>simp [beginRd,endRd] at he
    | panic v=>simp [beginRd,endRd] at he
    | normal=>
     simp only [RepX] at hx1
     subst hx1
     simp only [beginRd] at he
     by_cases hro1:h1.ro ≤ li
     case neg=>rw [if_neg hro1] at he; simp [endRd] at he
     rw [if_pos hro1] at he
     cases hds:F1.ds with
     | cons d ds=>rw [hds] at he; simp [endRd] at he
     | nil=>
      rw [hds] at he
      cases hblk1:h1.blks[li]? with
      | none=>rw [hblk1] at he; simp [endRd] at he
      | some blk1=>
       rw [hblk1] at he
       have hmu1:G1.mu[li]? = some b:=by
        obtain ⟨l',hl'⟩:=X1.mu
        rw [hl',List.getElem?_append_left (List.getElem?_eq_some_iff.1 hb).1]
        exact hb
       cases blk1 with
       | cells cs=>simp [endRd] at he
       | map es=>simp [endRd] at he
       | dead=>simp [endRd] at he
       | loop st1 pend1 t1 p1 as1 bo1=>
        cases st1 with
        | busy=>simp [endRd] at he
        | done=>simp [endRd] at he
        | ready=>
         simp only at he
         obtain ⟨L1,K1,hL1,hst1,hpe1,htm1,hpa1,hca1,hcb1⟩:=S1.inv.blk li _ b hblk1 hmu1
         have hbr:=run_beginRound (P:=T.P) hL1 hst1
         obtain ⟨X2,I2⟩:=S1.inv.put (i:=li) (b:=.loop .busy pend1 t1 p1 as1 bo1) (r:=b) (.loop { L1 with state:=.busy }) (List.getElem?_eq_some_iff.1 hblk1).1 (fun q=>by rw [hblk1] at q; cases q) hro1 hmu1
          (fun c e fz hq=>by rw [hL1] at hq; cases hq) (fun L' hq=>⟨_,rfl⟩)
          (fun K'=>⟨_,K1,World.putObj_heap_same (heap_lt hL1),rfl,hpe1,RepL.mono K' _ _ htm1,hpa1,hca1,hcb1⟩)
         refine ⟨_,hbr,?_⟩
         show L.body.wpIn (FC (some b)) 0 T.P _ _ _
         cases hB:evCode E n body F1 (h1.setBlk li (.loop .busy pend1 t1 p1 as1 bo1)) with
         | none=>rw [hB] at he; simp [endRd] at he
         | some o=>
          obtain ⟨x2,F2,h2⟩:=o
          rw [hB] at he
          have hw2:=hcode _ _ _ _ _ _ hB K L.body hcb (some b) w.heap.size G1 _ _ (S1.turn X2 I2)
          refine wpIn_mono hw2 fun e a3 w3 hp=>?_
          obtain ⟨G3,X3,S3,hx3⟩:=hp
          have hX:=(X1.trans X2).trans X3
          simp only [endRd] at he
          by_cases hro2:h2.ro ≤ li
          case neg=>rw [if_neg hro2] at he; cases he
          rw [if_pos hro2] at he
          cases hds2:F2.ds with
          | cons d ds=>rw [hds2] at he; simp at he
          | nil=>
           rw [hds2] at he
           cases hblk2:h2.blks[li]? with
           | none=>rw [hblk2] at he; simp at he
           | some blk2=>
            rw [hblk2] at he
            have hmu3:G3.mu[li]? = some b:=by
             obtain ⟨l',hl'⟩:=X3.mu
             rw [hl',List.getElem?_append_left (List.getElem?_eq_some_iff.1 hmu1).1]
             exact hmu1
            cases blk2 with
            | cells cs=>simp at he
            | map es=>simp at he
            | dead=>simp at he
            | loop st3 pend3 t3 p3 as3 bo3=>
             obtain ⟨L3,K3,hL3,hst3,hpe3,htm3,hpa3,hca3,hcb3⟩:=S3.inv.blk li _ b hblk2 hmu3
             have fin:∀ (j:Option AJump) (c:CRes) (h':AHeap),c = .ret (.bool j.isNone)→h' = h2.setBlk li (.loop (if j.isNone then .ready else .done) j t3 p3 as3 bo3) →
               ∃ v w4,(Instr.endRound b (j.map jumpC)).run T.P w3 = .ok v w4∧Ends T E G w c h' (.returned v) w4:=by
              intro j c h' hce hhe
              subst hce
              subst hhe
              obtain ⟨X4,I4⟩:=S3.inv.put (i:=li) (b:=.loop (if j.isNone then .ready else .done) j t3 p3 as3 bo3) (r:=b) (.loop { L3 with state:=if (j.map jumpC).isNone then .ready else .done,pending:=j.map jumpC }) (List.getElem?_eq_some_iff.1 hblk2).1 (fun q=>by rw [hblk2] at q; cases q) hro2 hmu3
               (fun c e fz hq=>by rw [hL3] at hq; cases hq) (fun L' hq=>⟨_,rfl⟩)
               (fun K'=>⟨_,K3,World.putObj_heap_same (heap_lt hL3),by cases j <;> rfl,rfl,RepL.mono K' _ _ htm3,hpa3,hca3,hcb3⟩)
              refine ⟨_,_,run_endRound (P:=T.P) _ hL3,G3,hX.trans X4,I4,_,rfl,?_⟩
              simp only [RepV]
              cases j <;> rfl
             cases x2 with
             | normal=>
              simp only [RepX] at hx3
              subst hx3
              cases he
              exact fin none _ _ rfl rfl
             | ret=>
              simp only [RepX] at hx3
              subst hx3
              cases he
              exact fin (some .ret) _ _ rfl rfl
             | exit id=>
              simp only [RepX] at hx3
              subst hx3
              cases he
              exact fin (some (.exit id)) _ _ rfl rfl
             | panic v=>simp at he
  ·cases he
 ·cases he
end Go.Pv
/- The evaluator is sound: codes; all in one. Conditions: EnvOk; theorems. -/
namespace Go.Pv
open Go.RowKit
variable {T:Tie} {E:Env} {G:Ghost} {h:AHeap} {w:World} {F:Fr} {a:Act}
theorem noGoto_of {x:AExit} {r:Option Nat} {lo:Nat} {F':Fr} {h':AHeap} {e:Exit} {a':Act} {w':World} (hp:Post T E r lo G w x F' h' e a' w'):Exit.noGoto (Post T E r lo G w x F' h') e a' w':=by
 have hp0:=hp
 obtain ⟨G',X,S,hx⟩:=hp
 cases x with
 | normal=>simp only [RepX] at hx; subst hx; exact hp0
 | exit id=>simp only [RepX] at hx; subst hx; exact hp0
 | ret=>simp only [RepX] at hx; subst hx; exact hp0
 | panic v=>simp only [RepX] at hx; obtain ⟨u,rfl,_⟩:=hx; exact hp0
theorem enter_loop {r:Option Nat} {lo:Nat} (S:St T E r lo G h w F a) (hnd:F.rnd ≠ .defd) {K:Keeps} {ps:Array Tmp} {assign body:Code} {sa sb:SCode} (hca:cCode T K assign = some sa) (hcb:cCode T K body = some sb) (fn:FuncId):
  ∃ l mark w1 G1,(Instr.enterLoop fn a.tmps ps assign body r).run T.P w = .ok (l,mark) w1∧Ext G w G1 w1 ∧
   St T E r lo G1 (h.push (.loop .ready none F.t ps.toList sa sb)) w1 F { a with defers:=mark++a.defers }∧G1.mu[h.blks.length]? = some l:=by
 cases r with
 | none=>
  obtain ⟨X1,I1⟩:=S.inv.otherAlloc (.deferred (some []))
  have S1:=S.turn X1 I1
  obtain ⟨X2,I2⟩:=I1.push (.loop .ready none F.t ps.toList sa sb) (.loop { state:=.ready,pending:=none,fn,tmps:=a.tmps,params:=ps,assign,body,defers:=w.heap.size })
   fun K'=>⟨_,K,alloc_at _ _,rfl,rfl,RepL.mono K' _ _ S1.tmps,rfl,hca,hcb⟩
  have S2:=S1.turn X2 I2
  refine ⟨_,_,_,_,run_enterLoop_outer fn a.tmps ps assign body,X1.trans X2,?_,?_⟩
  ·refine { inv:=I2,tmps:=S2.tmps,ds:=?_,low:=S2.low,rnd:=S2.rnd,nom:=fun hd=>absurd hd hnd,around:=S2.around }
   simp only [List.singleton_append,RepD]
   refine .inl ⟨w.heap.size,rfl,S.low,?_,?_,?_,?_,S2.ds⟩
   ·rw [alloc_lt (by simp)]
    exact alloc_at w _
   ·intro hm
    simp only [List.mem_append,List.mem_singleton,World.size_alloc] at hm
    rcases hm with hm | hm
    ·have:=S.inv.lt _ hm; omega
    ·omega
   ·intro k n ht
    have:=(S.inv.tlt k n _ ht).1
    omega
   ·intro d' hd' he
    subst he
    have:∀ (dl:List Deferred) (ds:List (Nat × List AV)),RepD T G w lo ds dl→∀ d ∈ dl,d ≠ { target:=.collected w.heap.size,args:=#[] }:=by
     intro dl
     induction dl with
     | nil=>intro ds _ d hd; cases hd
     | cons x dl ih=>
      intro ds hD d hd
      simp only [RepD] at hD
      rcases hD with ⟨r',rfl,q2,q3,q4,q5,q6,q7⟩ | ⟨j,as',ds',l',b',q1,rfl,q3,q4⟩
      ·rcases List.mem_cons.1 hd with rfl | hd
       ·intro he
        cases he
        have:=heap_lt q3
        omega
       ·exact ih _ q7 d hd
      ·rcases List.mem_cons.1 hd with rfl | hd
       ·intro he
        cases he
       ·exact ih _ q4 d hd
    exact this _ _ S.ds _ hd' rfl
  ·rw [← S.inv.len,List.getElem?_append_right (Nat.le_refl _)]
   simp
 | some l0=>
  obtain ⟨L0,hL0⟩:=S.around l0 rfl
  obtain ⟨X2,I2⟩:=S.inv.push (.loop .ready none F.t ps.toList sa sb) (.loop { state:=.ready,pending:=none,fn,tmps:=a.tmps,params:=ps,assign,body,defers:=L0.defers })
   fun K'=>⟨_,K,alloc_at _ _,rfl,rfl,RepL.mono K' _ _ S.tmps,rfl,hca,hcb⟩
  have S2:=S.turn X2 I2
  refine ⟨_,_,_,_,run_enterLoop_inner hL0 fn a.tmps ps assign body,X2,?_,?_⟩
  ·exact { inv:=I2,tmps:=S2.tmps,ds:=S2.ds,low:=S2.low,rnd:=S2.rnd,nom:=S2.nom,around:=S2.around }
  ·rw [← S.inv.len,List.getElem?_append_right (Nat.le_refl _)]
   simp
theorem code_of (O:EnvOk T E) {n:Nat} (hcode:CodeSim T E n) (hloop:LoopSim T E (n + 1)) (hfs:FuncSim T E n) (hcall:CallSim T E (evCall E n)) (hclosed:ClosedSim T E (evClosed E n)):CodeSim T E (n + 1):=by
 intro sc F h x F' h' he K c hc r lo G w a S
 have he0:=he
 cases c with
 | skip=>
  simp only [cCode] at hc
  cases hc
  simp only [evCode] at he
  cases he
  exact wpIn_skip ⟨G,Ext.refl S.inv.vlt,S,rfl⟩
 | label l=>
  simp only [cCode] at hc
  cases hc
  simp only [evCode] at he
  cases he
  exact wpIn_label ⟨G,Ext.refl S.inv.vlt,S,rfl⟩
 | region id ops draw=>
  cases draw with
  | false=>
   simp only [cCode,Option.map_eq_some_iff] at hc
   obtain ⟨sops,h1,rfl⟩:=hc
   simp only [evCode] at he
   exact wpIn_region_list (sim_ops hcall _ h1 he S fun _ _ _ hq=>hq)
  | true=>
   simp only [cCode] at hc
   split at hc
   ·rename_i sops h1
    split at hc
    ·split at hc
     ·rename_i hd
      cases hc
      simp only [evCode,Option.map_eq_some_iff] at he
      obtain ⟨p,h2,h3⟩:=he
      cases h3
      exact sim_draw hclosed O.mix h1 hd h2 S
     ·split at hc
      ·rename_i hd
       cases hc
       simp only [evCode] at he
       exact sim_stored hclosed O.mix h1 hd he S
      ·cases hc
    ·split at hc
     ·rename_i b hb
      split at hc
      ·rename_i hd
       cases hc
       simp only [evCode] at he
       exact sim_mixed hclosed hcall O.mix h1 hb hd he S
      ·cases hc
     ·cases hc
   ·cases hc
 | seq p q=>
  simp only [cCode] at hc
  split at hc
  ·rename_i sp sq h1 h2
   cases hc
   simp only [evCode] at he
   refine wpIn_seq ?_
   cases hp:evCode E n sp F h with
   | none=>rw [hp] at he; simp [thenDo] at he
   | some o=>
    obtain ⟨x1,F1,hh1⟩:=o
    rw [hp] at he
    have hw:=hcode _ _ _ _ _ _ hp K p h1 r lo G w a S
    refine wpIn_mono hw fun e a1 w1 hP=>?_
    cases x1 with
    | normal=>
     simp only [thenDo] at he
     obtain ⟨G1,X1,S1,hx⟩:=hP
     simp only [RepX] at hx
     subst hx
     exact wpIn_mono (hcode _ _ _ _ _ _ he K q h2 r lo G1 w1 a1 S1) fun e a2 w2 hq=>Post.trans X1 hq
    | exit id=>
     simp only [thenDo] at he
     cases he
     have hP0:=hP
     obtain ⟨G1,X1,S1,hx⟩:=hP
     simp only [RepX] at hx
     subst hx
     exact hP0
    | ret=>
     simp only [thenDo] at he
     cases he
     have hP0:=hP
     obtain ⟨G1,X1,S1,hx⟩:=hP
     simp only [RepX] at hx
     subst hx
     exact hP0
    | panic v=>
     simp only [thenDo] at he
     cases he
     have hP0:=hP
     obtain ⟨G1,X1,S1,hx⟩:=hP
     simp only [RepX] at hx
     obtain ⟨u,rfl,_⟩:=hx
     exact hP0
  ·cases hc
 | cond cd p q=>
  simp only [cCode] at hc
  split at hc
  ·rename_i scd sp sq h0 h1 h2
   cases hc
   simp only [evCode] at he
   have hv:=opd_rep S.inv S.tmps h0 (E:=E)
   split at he
   ·rename_i hq
    rw [hq] at hv
    simp only [RepV] at hv
    exact wpIn_cond_true hv (hcode _ _ _ _ _ _ he K p h1 r lo G w a S)
   ·rename_i hq
    rw [hq] at hv
    simp only [RepV] at hv
    exact wpIn_cond_false hv (hcode _ _ _ _ _ _ he K q h2 r lo G w a S)
   ·cases he
  ·cases hc
 | block id p=>
  simp only [cCode,Option.map_eq_some_iff] at hc
  obtain ⟨sp,h1,rfl⟩:=hc
  simp only [evCode] at he
  refine wpIn_block ?_
  cases hp:evCode E n sp F h with
  | none=>rw [hp] at he; simp [blockEnd] at he
  | some o=>
   obtain ⟨x1,F1,hh1⟩:=o
   rw [hp] at he
   have hw:=hcode _ _ _ _ _ _ hp K p h1 r lo G w a S
   refine wpIn_mono hw fun e a1 w1 hP=>?_
   obtain ⟨G1,X1,S1,hx⟩:=hP
   cases x1 with
   | normal=>
    simp only [blockEnd] at he
    cases he
    simp only [RepX] at hx
    subst hx
    exact ⟨G1,X1,S1.mask _,rfl⟩
   | exit i=>
    simp only [RepX] at hx
    subst hx
    simp only [blockEnd] at he
    simp only [Exit.inBlock]
    split at he
    ·rename_i hi
     cases he
     rw [if_pos hi]
     exact ⟨G1,X1,S1.mask _,rfl⟩
    ·rename_i hi
     cases he
     rw [if_neg hi]
     exact ⟨G1,X1,S1,rfl⟩
   | ret=>
    simp only [blockEnd] at he
    cases he
    simp only [RepX] at hx
    subst hx
    exact ⟨G1,X1,S1,rfl⟩
   | panic v=>
    simp only [blockEnd] at he
    cases he
    simp only [RepX] at hx
    obtain ⟨u,rfl,hu⟩:=hx
    exact ⟨G1,X1,S1,u,rfl,hu⟩
 | loop p=>
  simp only [cCode,Option.map_eq_some_iff] at hc
  obtain ⟨sp,h1,rfl⟩:=hc
  exact wpIn_loop_rounds (n + 1) (hloop _ sp F h x F' h' he K p h1 r lo G w a _ S fun _ _ _ hq=>hq)
 | rangeFunc g ps p q=>
  simp only [cCode] at hc
  split at hc
  ·rename_i sg sp sq h0 h1 h2
   cases hc
   simp only [evCode] at he
   split at he
   ·rename_i j first caps hfv
    split at he
    ·cases he
    rename_i hnd
    refine wpIn_rangeFunc fun fn _=>?_
    obtain ⟨l,mark,w1,G1,hent,X1,S1,hmu⟩:=enter_loop S hnd h1 h2 fn (ps:=ps)
    cases hcl:evCall E n (.fn (.func j) first caps) [.fn (.yield h.blks.length) [] []] (h.push (.loop .ready none F.t ps.toList sp sq)) with
    | none=>rw [hcl] at he; simp [endRange] at he
    | some o=>
     obtain ⟨c1,hh2⟩:=o
     rw [hcl] at he
     have hg:=opd_rep S1.inv S1.tmps h0 (E:=E)
     rw [hfv] at hg
     have harg:RepL T G1 w1 [.fn (.yield h.blks.length) [] []] [.func (.yield l) #[] #[]]:=by
      simp only [RepL,RepV]
      exact ⟨_,_,rfl,⟨l,[],[],hmu,rfl,rfl,rfl⟩,rfl⟩
     obtain ⟨d,fi,as,q1,q2,q3,q4⟩:=hfs j first caps _ _ _ _ hcl G1 w1 _ _ S1.inv hg harg
     refine ⟨l,mark,w1,d,w1,fi,as,w1,hent,?_,fun f' hf'=>trivial,q3,fun hh=>by simp [FC,Fence.wide] at hh,?_⟩
     ·rw [resolve_value rfl]
      exact q1
     ·refine CallsIn.mono q4 fun e w3 hE=>?_
      cases c1 with
      | pan v=>simp [endRange] at he
      | ret v=>
       obtain ⟨G2,X2,I2,u,rfl,hu⟩:=hE
       have S2:=S1.turn X2 I2
       simp only [endRange] at he
       by_cases hro:hh2.ro ≤ h.blks.length
       case neg=>rw [if_neg hro] at he; cases he
       rw [if_pos hro] at he
       have hmu2:G2.mu[h.blks.length]? = some l:=by
        obtain ⟨l',hl'⟩:=X2.mu
        rw [hl',List.getElem?_append_left (List.getElem?_eq_some_iff.1 hmu).1]
        exact hmu
       have fin:∀ (st:LState) (pend:Option AJump) (t:List AV) (p2:List Nat) (a2 b2:SCode),hh2.blks[h.blks.length]? = some (.loop st pend t p2 a2 b2)→st ≠ .busy →
         ∃ w4 G4,(Instr.endLoop l).run T.P w3 = .ok (pend.map jumpC) w4∧Ext G w G4 w4∧St T E r lo G4 (hh2.setBlk h.blks.length .dead) w4 F { a with defers:=mark++a.defers }:=by
        intro st pend t p2 a2 b2 hb hst
        obtain ⟨L,K',hL,e1,e2,e3,e4,e5,e6⟩:=I2.blk _ _ l hb hmu2
        obtain ⟨X3,I3⟩:=I2.put (i:=h.blks.length) (b:=.dead) (r:=l) (.loop { L with state:=.exhausted }) (List.getElem?_eq_some_iff.1 hb).1 (fun q=>by rw [hb] at q; cases q) hro hmu2
         (fun c e fz hq=>by rw [hL] at hq; cases hq) (fun L' hq=>⟨_,rfl⟩) (fun _=>trivial)
        refine ⟨_,G2,?_,(X1.trans X2).trans X3,S2.turn X3 I3⟩
        rw [← e2]
        exact run_endLoop hL (by rw [e1]; cases st <;> simp_all [stC])
       split at he
       ·rename_i t p2 a2 b2 hb
        cases he
        obtain ⟨w4,G4,r1,r2,r3⟩:=fin _ _ _ _ _ _ hb (by simp)
        exact ⟨_,w4,r1,G4,r2,r3,rfl⟩
       ·rename_i t p2 a2 b2 hb
        cases he
        obtain ⟨w4,G4,r1,r2,r3⟩:=fin _ _ _ _ _ _ hb (by simp)
        exact ⟨_,w4,r1,wpIn_ret ⟨G4,r2,r3,rfl⟩⟩
       ·rename_i id t p2 a2 b2 hb
        cases he
        obtain ⟨w4,G4,r1,r2,r3⟩:=fin _ _ _ _ _ _ hb (by simp)
        exact ⟨_,w4,r1,wpIn_exit ⟨G4,r2,r3,rfl⟩⟩
       ·cases he
   ·cases he
  ·cases hc
 | exit id=>
  simp only [cCode] at hc
  cases hc
  simp only [evCode] at he
  cases he
  exact wpIn_exit ⟨G,Ext.refl S.inv.vlt,S.mask _,rfl⟩
 | scope p=>
  simp only [cCode,Option.map_eq_some_iff] at hc
  obtain ⟨sp,h1,rfl⟩:=hc
  simp only [evCode] at he
  exact wpIn_scope (wpIn_mono (hcode _ _ _ _ _ _ he K p h1 r lo G w a S) fun _ _ _ hq=>noGoto_of hq)
 | ret=>
  simp only [cCode] at hc
  cases hc
  simp only [evCode] at he
  cases he
  exact wpIn_ret ⟨G,Ext.refl S.inv.vlt,S.mask _,rfl⟩
 | goto l=>simp [cCode] at hc
 | refuse s=>simp [cCode] at hc
theorem loop_of {n:Nat} (hcode:CodeSim T E n) (hloop:LoopSim T E n):LoopSim T E (n + 1):=by
 intro keep sc F h x F' h' he K c hc r lo G w a Q S hQ
 simp only [evCode] at he
 rw [roundsIn_succ]
 cases hp:evCode E n sc (mask keep F) h with
 | none=>rw [hp] at he; simp [thenDo] at he
 | some o=>
  obtain ⟨x1,F1,hh1⟩:=o
  rw [hp] at he
  have hw:=hcode _ _ _ _ _ _ hp K c hc r lo G w a (S.mask keep)
  refine wpIn_mono hw fun e a1 w1 hP=>?_
  cases x1 with
  | normal=>
   simp only [thenDo] at he
   obtain ⟨G1,X1,S1,hx⟩:=hP
   simp only [RepX] at hx
   subst hx
   exact hloop keep sc F1 hh1 x F' h' he K c hc r lo G1 w1 a1 Q S1 fun e a2 w2 hq=>hQ _ _ _ (Post.trans X1 hq)
  | exit id=>
   simp only [thenDo] at he
   cases he
   have hP0:=hP
   obtain ⟨G1,X1,S1,hx⟩:=hP
   simp only [RepX] at hx
   subst hx
   exact hQ _ _ _ hP0
  | ret=>
   simp only [thenDo] at he
   cases he
   have hP0:=hP
   obtain ⟨G1,X1,S1,hx⟩:=hP
   simp only [RepX] at hx
   subst hx
   exact hQ _ _ _ hP0
  | panic v=>
   simp only [thenDo] at he
   cases he
   have hP0:=hP
   obtain ⟨G1,X1,S1,hx⟩:=hP
   simp only [RepX] at hx
   obtain ⟨u,rfl,_⟩:=hx
   exact hQ _ _ _ hP0
structure AllSim (T:Tie) (E:Env) (n:Nat):Prop where
 code:CodeSim T E n
 loop:LoopSim T E n
 fn:FnSim T E n
 round:RoundSim T E n
 shut:ShutSim T E n
 func:FuncSim T E n
 call:CallSim T E (evCall E n)
 closed:ClosedSim T E (evClosed E n)
 s:SSim T E n
 df:DefSim T E n
theorem all_sim (O:EnvOk T E):∀ n,AllSim T E n
 | 0=>{
  code:=fun sc F h x F' h' he=>by simp [evCode] at he
  loop:=fun k sc F h x F' h' he=>by simp [evCode] at he
  fn:=fun sf args h c h' he=>by simp [evFn] at he
  round:=fun li args h c h' he=>by simp [evRound] at he
  shut:=fun j x y z v he=>by simp [evClosed] at he
  func:=fun j x y z h c h' he=>by simp [evCall] at he
  call:=fun f args h c h' he=>by simp [evCall] at he
  closed:=fun f args h c h' he=>by simp [evClosed] at he
  s:=fun sc F p h x F' p' h' he=>by simp [evS] at he
  df:=fun j args p h p' h' he=>by simp [evDef] at he }
 | n + 1=>by
  have A:=all_sim O n
  have hl:=loop_of A.code A.loop
  have hs:=shut_of_closed O A.fn
  have hf:=func_of O A.fn A.shut
  exact {
   code:=code_of O A.code hl A.func A.call A.closed
   loop:=hl
   fn:=fn_of A.code A.df
   round:=round_of A.code
   shut:=hs
   func:=hf
   call:=call_of hf A.round
   closed:=closed_of hs
   s:=s_of A.code A.s
   df:=def_of O A.s }
theorem closed_calls (O:EnvOk T E) {n j:Nat} {args:List AV} {v:AV} (he:evClosed E n (.fn (.func j) [] []) args = some v) (I:Inv T E G h w) {l:List Value} (hl:RepL T G w args l):
  ∃ as,CallsIn (FC none) 0 T.P (T.fnum j) as w (Ends T E G w (.ret v) h)∧as = ⟨l⟩:=by
 have A:=all_sim O n
 have hr:RepV T G w (.fn (.func j) [] []) (.func (.func (T.fnum j)) #[] #[]):=by
  simp only [RepV,RepL]
  exact ⟨[],[],rfl,rfl,rfl⟩
 obtain ⟨d,fi,as,q1,_,q3,q4⟩:=A.shut j [] [] args v he G h w _ l I hr hl
 simp only [Deferred.ofValue,Sem.run_pure] at q1
 cases q1
 cases n with
 | zero=>simp [evClosed] at he
 | succ n=>
  simp only [evClosed] at he
  have hfb : ∃ f c, T.P.funcs[T.fnum j]? = some f ∧ f.body = some c ∧ f.name ≠ "runtime.NumGoroutine" := by
   split at he
   ·rename_i g hg
    obtain ⟨f,c,h1,h2,h3,_⟩:=O.ext j g hg
    exact ⟨f,c,h1,h2,h3⟩
   split at he
   ·cases he
   ·rename_i sf hsf
    obtain ⟨K,f,hf,hc⟩:=O.fn j sf hsf
    obtain ⟨c,hb,hn,_⟩:=cFunc_spec hc
    exact ⟨f,c,hf,hb,hn⟩
  obtain ⟨f,c,hf,hb,hn⟩:=hfb
  have:(invoke (.fn (.func (T.fnum j)) #[]) (#[]++(⟨l⟩:Array Value))).run T.P w = .ok (.enter (T.fnum j) ⟨l⟩) w:=by
   simp [invoke,callFunc,hf,hb,hn,Result.andThen]
  rw [this] at q3
  cases q3
  exact ⟨_,q4,rfl⟩
end Go.Pv
/- The evaluator without its count of steps: what it comes to with any count. Conditions: none; definitions and equations. -/
namespace Go.Pv
section mono
variable {E:Env}
theorem evOper_mono {c1 c2:AV→List AV→AHeap→Option (CRes × AHeap)} (hc:∀ f as h r,c1 f as h = some r→c2 f as h = some r) {o:SOper} {F:Fr} {h:AHeap} {r:AExit × Fr × AHeap} (he:evOper E c1 o F h = some r):evOper E c2 o F h = some r:=by
 unfold evOper at he ⊢
 split at he
 ·cases he
 ·exact he
 ·cases hop:o.op <;> rw [hop] at he <;> first | exact he | skip
  simp only at he ⊢
  split at he
  ·cases he
  ·rename_i h1; rw [hc _ _ _ _ h1]; exact he
  ·rename_i h1; rw [hc _ _ _ _ h1]; exact he
theorem evOps_mono {c1 c2:AV→List AV→AHeap→Option (CRes × AHeap)} (hc:∀ f as h r,c1 f as h = some r→c2 f as h = some r):∀ {os:List SOper} {F:Fr} {h:AHeap} {r:AExit × Fr × AHeap},evOps E c1 os F h = some r→evOps E c2 os F h = some r
 | [],F,h,r,he=>he
 | o :: os,F,h,r,he=>by
  simp only [evOps] at he ⊢
  split at he
  ·rename_i h1
   rw [evOper_mono hc h1]
   exact evOps_mono hc he
  ·rename_i hne
   rw [evOper_mono hc he]
   obtain ⟨x,F',h'⟩:=r
   cases x with
   | normal=>exact absurd he (hne _ _)
   | exit id=>rfl
   | ret=>rfl
   | panic v=>rfl
theorem evDraw1_mono {c1 c2:AV→List AV→Option AV} (hc:∀ f as r,c1 f as = some r→c2 f as = some r) {o:SOper} {F:Fr} {h:AHeap} {r:Fr × AHeap} (he:evDraw1 E c1 o F h = some r):evDraw1 E c2 o F h = some r:=by
 unfold evDraw1 at he ⊢
 split at he
 ·cases he
 ·exact he
 ·cases hop:o.op <;> rw [hop] at he <;> first | exact he | skip
  simp only [Option.map_eq_some_iff] at he ⊢
  obtain ⟨v,h1,h2⟩:=he
  exact ⟨v,hc _ _ _ h1,h2⟩
theorem evDraw_mono {c1 c2:AV→List AV→Option AV} (hc:∀ f as r,c1 f as = some r→c2 f as = some r):∀ {os:List SOper} {F:Fr} {h:AHeap} {r:Fr × AHeap},evDraw E c1 os F h = some r→evDraw E c2 os F h = some r
 | [],F,h,r,he=>he
 | o :: os,F,h,r,he=>by
  obtain ⟨F1,h1,q1,q2⟩:=evDraw_cons.1 he
  exact evDraw_cons.2 ⟨F1,h1,evDraw1_mono hc q1,evDraw_mono hc q2⟩
theorem thenDo_mono {k1 k2:Fr→AHeap→Out} (hk:∀ F h r,k1 F h = some r→k2 F h = some r) {o1 o2:Out} (ho:∀ r,o1 = some r→o2 = some r) {r:AExit × Fr × AHeap} (he:thenDo k1 o1 = some r):thenDo k2 o2 = some r:=by
 cases o1 with
 | none=>cases he
 | some p=>
  obtain ⟨x,F,h⟩:=p
  rw [ho _ rfl]
  cases x with
  | normal=>exact hk _ _ _ he
  | exit id=>exact he
  | ret=>exact he
  | panic v=>exact he
theorem map_mono {α β:Type} {f:Option α→Option β} (hf:f none = none) {o1 o2:Option α} (ho:∀ r,o1 = some r→o2 = some r) {r:β} (he:f o1 = some r):f o2 = some r:=by
 cases o1 with
 | none=>rw [hf] at he; cases he
 | some p=>rw [ho _ rfl]; exact he
theorem evMixed_mono {c1 c2:AV→List AV→Option AV} (hc:∀ f as r,c1 f as = some r→c2 f as = some r) {d1 d2:AV→List AV→AHeap→Option (CRes × AHeap)} (hd:∀ f as h r,d1 f as h = some r→d2 f as h = some r)
  {pre post:List SOper} {c:SOper} {F:Fr} {h:AHeap} {r:AExit × Fr × AHeap} (he:evMixed E c1 d1 pre c post F h = some r):evMixed E c2 d2 pre c post F h = some r:=by
 unfold evMixed at he ⊢
 split at he
 ·cases he
 ·rename_i F1 g h1
  split at he
  ·rename_i F2 h2 h3
   rw [evOper_mono hd h3]
   simp only
   split at he
   ·rename_i hT
    rw [if_pos hT]
    exact map_mono (f:=Option.map fun (p:Fr × AHeap)=>(AExit.normal,p.1,p.2)) rfl (fun r=>evDraw_mono hc) he
   ·cases he
  ·cases he
theorem val1_mono {c1 c2:AV→List AV→Option AV} (hc:∀ f as r,c1 f as = some r→c2 f as = some r) {o:SOper} {F:Fr} {h:AHeap} {p:AV × AHeap} (he:val1 E c1 o F h = some p):val1 E c2 o F h = some p:=by
 unfold val1 at he ⊢
 split at he
 ·cases he
 ·exact he
 ·split at he
  ·rename_i f args hop
   simp only [Option.map_eq_some_iff] at he ⊢
   obtain ⟨v,h1,h2⟩:=he
   exact ⟨v,hc _ _ _ h1,h2⟩
  ·exact he
theorem stP_mono {c1 c2:AV→List AV→Option AV} (hc:∀ f as r,c1 f as = some r→c2 f as = some r) {p:Fr × AHeap}:∀ {ops:List (SOper × Nat)} {pend:List (Nat × (AHeap→Prop))} {F:Fr} {h:AHeap},StP E c1 ops pend F h p→StP E c2 ops pend F h p
 | [],_,_,_,he=>he
 | (o,k) :: os,pend,F,h,he=>by
  obtain ⟨v,h',q1,q2,q3⟩:=he
  exact ⟨v,h',val1_mono hc q1,q2,stP_mono hc q3⟩
theorem evStored_mono {c1 c2:AV→List AV→Option AV} (hc:∀ f as r,c1 f as = some r→c2 f as = some r) {ops:List (SOper × Nat)} {F:Fr} {h:AHeap} {r:AExit × Fr × AHeap} (he:evStored E c1 ops F h = some r):evStored E c2 ops F h = some r:=by
 unfold evStored at he ⊢
 split at he
 ·cases he
 ·rename_i p h1
  rw [evDraw_mono hc h1]
  simp only
  split at he
  ·rename_i hT
   rw [if_pos (stP_mono hc hT)]
   exact he
  ·cases he
theorem beginRd_mono {l:Nat} {k1 k2:Fr→AHeap→Out} (hk:∀ F h r,k1 F h = some r→k2 F h = some r) {o1 o2:Out} (ho:∀ r,o1 = some r→o2 = some r) {r:AExit × Fr × AHeap} (he:beginRd l k1 o1 = some r):beginRd l k2 o2 = some r:=by
 cases o1 with
 | none=>cases he
 | some p=>
  rw [ho _ rfl]
  unfold beginRd at he ⊢
  split at he
  ·split at he
   ·rename_i hro
    rw [if_pos hro]
    split at he
    ·exact hk _ _ _ he
    ·cases he
   ·cases he
  ·cases he
theorem runDefs_mono {d1 d2:Nat→List AV→Option AV→AHeap→Option (Option AV × AHeap)} (hd:∀ j as p h r,d1 j as p h = some r→d2 j as p h = some r):∀ {ds:List (Nat × List AV)} {p:Option AV} {h:AHeap} {r:Option AV × AHeap},runDefs d1 ds p h = some r→runDefs d2 ds p h = some r
 | [],p,h,r,he=>he
 | d :: ds,p,h,r,he=>by
  simp only [runDefs] at he ⊢
  split at he
  ·rename_i p' h' h1
   rw [hd _ _ _ _ _ h1]
   exact runDefs_mono hd he
  ·cases he
theorem endFn_mono {sf:SFunc} {d1 d2:Nat→List AV→Option AV→AHeap→Option (Option AV × AHeap)} (hd:∀ j as p h r,d1 j as p h = some r→d2 j as p h = some r) {o1 o2:Out} (ho:∀ r,o1 = some r→o2 = some r) {r:CRes × AHeap} (he:endFn sf d1 o1 = some r):endFn sf d2 o2 = some r:=by
 cases o1 with
 | none=>cases he
 | some q=>
  rw [ho _ rfl]
  obtain ⟨x,F,h⟩:=q
  cases x with
  | exit id=>cases he
  | normal=>simp only [endFn] at he ⊢; exact map_mono (f:=endRes sf F) rfl (fun r=>runDefs_mono hd) he
  | ret=>simp only [endFn] at he ⊢; exact map_mono (f:=endRes sf F) rfl (fun r=>runDefs_mono hd) he
  | panic v=>simp only [endFn] at he ⊢; exact map_mono (f:=endRes sf F) rfl (fun r=>runDefs_mono hd) he
theorem thenS_mono {k1 k2:Fr→Option AV→AHeap→OutS} (hk:∀ F p h r,k1 F p h = some r→k2 F p h = some r) {o1 o2:OutS} (ho:∀ r,o1 = some r→o2 = some r) {r:AExit × Fr × Option AV × AHeap} (he:thenS k1 o1 = some r):thenS k2 o2 = some r:=by
 cases o1 with
 | none=>cases he
 | some q=>
  obtain ⟨x,F,p,h⟩:=q
  rw [ho _ rfl]
  cases x with
  | normal=>exact hk _ _ _ _ he
  | exit id=>exact he
  | ret=>exact he
  | panic v=>exact he
structure Mono (E:Env) (n:Nat):Prop where
 closed:∀ f as r,evClosed E n f as = some r→evClosed E (n + 1) f as = some r
 call:∀ f as h r,evCall E n f as h = some r→evCall E (n + 1) f as h = some r
 fn:∀ sf as h r,evFn E n sf as h = some r→evFn E (n + 1) sf as h = some r
 round:∀ l as h r,evRound E n l as h = some r→evRound E (n + 1) l as h = some r
 code:∀ c F h r,evCode E n c F h = some r→evCode E (n + 1) c F h = some r
 s:∀ c F p h r,evS E n c F p h = some r→evS E (n + 1) c F p h = some r
 df:∀ j as p h r,evDef E n j as p h = some r→evDef E (n + 1) j as p h = some r
theorem mono:∀ n,Mono E n
 | 0=>{
  closed:=fun f as r he=>by simp [evClosed] at he
  call:=fun f as h r he=>by simp [evCall] at he
  fn:=fun f as h r he=>by simp [evFn] at he
  round:=fun f as h r he=>by simp [evRound] at he
  code:=fun f as h r he=>by simp [evCode] at he
  s:=fun c F p h r he=>by simp [evS] at he
  df:=fun j as p h r he=>by simp [evDef] at he }
 | n + 1=>by
  have M:=mono n
  refine { closed:=?_,call:=?_,fn:=?_,round:=?_,code:=?_,s:=?_,df:=?_ }
  ·intro f as r he
   cases f <;> first | (simp [evClosed] at he; done) | skip
   rename_i g first caps
   cases g with
   | yield l=>simp [evClosed] at he
   | func j=>
    simp only [evClosed] at he ⊢
    cases hx:E.ext j with
    | some g=>rw [hx] at he; exact he
    | none=>
    rw [hx] at he
    simp only at he ⊢
    cases hj:E.fn j with
    | none=>rw [hj] at he; cases he
    | some sf=>
     rw [hj] at he
     simp only at he ⊢
     split at he
     ·rename_i hm hs
      exact map_mono rfl (fun r=>M.fn _ _ _ r) he
     ·cases he
  ·intro f as h r he
   cases f <;> first | (simp [evCall] at he; done) | skip
   rename_i g first caps
   cases g with
   | yield l=>
    cases first with
    | cons x xs=>simp [evCall] at he
    | nil=>
     cases caps with
     | cons x xs=>simp [evCall] at he
     | nil=>
      simp only [evCall] at he ⊢
      exact M.round _ _ _ _ he
   | func j=>
    simp only [evCall] at he ⊢
    cases hx:E.ext j with
    | some g=>
     rw [hx] at he
     exact map_mono (f:=Option.map fun v=>(CRes.ret v,h)) rfl (fun r=>M.closed _ _ r) he
    | none=>
    rw [hx] at he
    simp only at he ⊢
    cases hj:E.fn j with
    | none=>rw [hj] at he; cases he
    | some sf=>
     rw [hj] at he
     simp only at he ⊢
     split at he
     ·rename_i hm
      exact M.fn _ _ _ _ he
     ·rename_i hm
      exact map_mono (f:=Option.map fun v=>(CRes.ret v,h)) rfl (fun r=>M.closed _ _ r) he
     ·exact map_mono (f:=readEnd h) rfl (fun r=>M.fn _ _ _ r) he
  ·intro sf as h r he
   simp only [evFn] at he ⊢
   exact endFn_mono M.df (fun r=>M.code _ _ _ r) he
  ·intro l as h r he
   rw [evRound] at he ⊢
   split at he
   ·split at he
    ·rename_i hlen
     simp only [hlen,if_true] at he ⊢
     refine map_mono (f:=endRd l) rfl (fun r hr=>?_) he
     exact beginRd_mono (fun F h r=>M.code _ F h r) (fun r=>M.code _ _ _ r) hr
    ·cases he
   ·cases he
  ·intro c F h r he
   cases c with
   | skip=>simp only [evCode] at he ⊢; exact he
   | region d ops=>
    cases d with
    | false=>simp only [evCode] at he ⊢; exact evOps_mono (M.call) he
    | true=>
     simp only [evCode] at he ⊢
     exact map_mono (f:=Option.map fun p=>(AExit.normal,p.1,p.2)) rfl (fun r=>evDraw_mono M.closed) he
   | mixed pre c post=>simp only [evCode] at he ⊢; exact evMixed_mono M.closed M.call he
   | stored ops=>simp only [evCode] at he ⊢; exact evStored_mono M.closed he
   | seq a b=>simp only [evCode] at he ⊢; exact thenDo_mono (fun F h r=>M.code _ F h r) (fun r=>M.code _ _ _ r) he
   | cond c a b=>
    simp only [evCode] at he ⊢
    split at he
    ·exact M.code _ _ _ _ he
    ·exact M.code _ _ _ _ he
    ·cases he
   | block id k c=>simp only [evCode] at he ⊢; exact map_mono rfl (fun r=>M.code _ _ _ r) he
   | loop k c=>simp only [evCode] at he ⊢; exact thenDo_mono (fun F h r=>M.code _ F h r) (fun r=>M.code _ _ _ r) he
   | rangeFunc f ps a b=>
    simp only [evCode] at he ⊢
    split at he
    ·split at he
     ·cases he
     ·rename_i hnd
      rw [if_neg hnd]
      exact map_mono rfl (fun r=>M.call _ _ _ r) he
    ·cases he
   | exit id k=>simp only [evCode] at he ⊢; exact he
   | scope c=>simp only [evCode] at he ⊢; exact M.code _ _ _ _ he
   | ret k=>simp only [evCode] at he ⊢; exact he
  ·intro c F p h r he
   have gen:∀ c,(evCode E n c F h).map (fun r=>(r.1,r.2.1,p,r.2.2)) = some r→(evCode E (n + 1) c F h).map (fun r=>(r.1,r.2.1,p,r.2.2)) = some r:=fun c hc=>
    map_mono (f:=Option.map fun (r:AExit × Fr × AHeap)=>(r.1,r.2.1,p,r.2.2)) rfl (fun r=>M.code _ _ _ r) hc
   cases c with
   | seq a b=>simp only [evS] at he ⊢; exact thenS_mono (fun F p h r=>M.s _ F p h r) (fun r=>M.s _ _ _ _ r) he
   | region d ops=>
    cases d with
    | false=>
     simp only [evS] at he ⊢
     split at he
     ·rename_i hr; rw [if_pos hr]; exact he
     ·rename_i hr; rw [if_neg hr]; exact gen _ he
    | true=>simp only [evS] at he ⊢; exact gen _ he
   | mixed pre c post=>simp only [evS] at he ⊢; exact gen _ he
   | stored ops=>simp only [evS] at he ⊢; exact gen _ he
   | skip=>simp only [evS] at he ⊢; exact gen _ he
   | cond c a b=>simp only [evS] at he ⊢; exact gen _ he
   | block id k c=>simp only [evS] at he ⊢; exact gen _ he
   | loop k c=>simp only [evS] at he ⊢; exact gen _ he
   | rangeFunc f ps a b=>simp only [evS] at he ⊢; exact gen _ he
   | exit id k=>simp only [evS] at he ⊢; exact gen _ he
   | scope c=>simp only [evS] at he ⊢; exact gen _ he
   | ret k=>simp only [evS] at he ⊢; exact gen _ he
  ·intro j as p h r he
   simp only [evDef] at he ⊢
   split at he
   ·exact map_mono (f:=endDef _) rfl (fun r=>M.s _ _ _ _ r) he
   ·cases he
end mono
def Grows {α:Type} (f:Nat→Option α):Prop:=∀ n r,f n = some r→f (n + 1) = some r
theorem Grows.le {α:Type} {f:Nat→Option α} (g:Grows f) {n m:Nat} (hle:n ≤ m) {r:α} (h:f n = some r):f m = some r:=by
 induction hle with
 | refl=>exact h
 | step _ ih=>exact g _ _ ih
open Classical in
noncomputable def lim {α:Type} (f:Nat→Option α):Option α:=if h:∃ r n,f n = some r then some h.choose else none
theorem lim_iff {α:Type} {f:Nat→Option α} (g:Grows f) {r:α}:lim f = some r ↔ ∃ n,f n = some r:=by
 unfold lim
 split
 ·rename_i h
  obtain ⟨n,hn⟩:=h.choose_spec
  constructor
  ·intro he
   cases he
   exact ⟨n,hn⟩
  ·rintro ⟨m,hm⟩
   have h1:=g.le (Nat.le_max_left n m) hn
   have h2:=g.le (Nat.le_max_right n m) hm
   rw [h1] at h2
   exact h2
 ·rename_i h
  constructor
  ·intro he; cases he
  ·rintro ⟨n,hn⟩
   exact absurd ⟨r,n,hn⟩ h
theorem lim_ext {α:Type} {f:Nat→Option α} (g:Grows f) {o:Option α} (h:∀ r,(∃ n,f n = some r) ↔ o = some r):lim f = o:=by
 cases ho:o with
 | none=>
  cases hl:lim f with
  | none=>rfl
  | some r=>
   have:=(h r).1 ((lim_iff g).1 hl)
   rw [ho] at this
   cases this
 | some r=>exact (lim_iff g).2 ((h r).2 ho)
variable (E:Env)
noncomputable def EvClosed (f:AV) (as:List AV):Option AV:=lim fun n=>evClosed E n f as
noncomputable def EvCall (f:AV) (as:List AV) (h:AHeap):Option (CRes × AHeap):=lim fun n=>evCall E n f as h
noncomputable def EvFn (sf:SFunc) (as:List AV) (h:AHeap):Option (CRes × AHeap):=lim fun n=>evFn E n sf as h
noncomputable def EvRound (l:Nat) (as:List AV) (h:AHeap):Option (CRes × AHeap):=lim fun n=>evRound E n l as h
noncomputable def EvCode (c:SCode) (F:Fr) (h:AHeap):Out:=lim fun n=>evCode E n c F h
noncomputable def EvS (c:SCode) (F:Fr) (p:Option AV) (h:AHeap):OutS:=lim fun n=>evS E n c F p h
noncomputable def EvDef (j:Nat) (as:List AV) (p:Option AV) (h:AHeap):Option (Option AV × AHeap):=lim fun n=>evDef E n j as p h
variable {E}
def Env.code (E:Env) (j:Nat):Option SFunc:=match E.ext j with | some _=>none | none=>E.fn j
theorem code_spec {j:Nat} {sf:SFunc} (hf:E.code j = some sf):E.ext j = none∧E.fn j = some sf:=by
 unfold Env.code at hf
 split at hf
 ·cases hf
 ·exact ⟨by assumption,hf⟩
theorem gS {c:SCode} {F:Fr} {p:Option AV} {h:AHeap}:Grows fun n=>evS E n c F p h:=fun n _ h=>(mono n).s _ _ _ _ _ h
theorem gDef {j:Nat} {as:List AV} {p:Option AV} {h:AHeap}:Grows fun n=>evDef E n j as p h:=fun n _ h=>(mono n).df _ _ _ _ _ h
theorem gClosed {f:AV} {as:List AV}:Grows fun n=>evClosed E n f as:=fun n _ h=>(mono n).closed _ _ _ h
theorem gCall {f:AV} {as:List AV} {h:AHeap}:Grows fun n=>evCall E n f as h:=fun n _ h=>(mono n).call _ _ _ _ h
theorem gFn {sf:SFunc} {as:List AV} {h:AHeap}:Grows fun n=>evFn E n sf as h:=fun n _ h=>(mono n).fn _ _ _ _ h
theorem gRound {l:Nat} {as:List AV} {h:AHeap}:Grows fun n=>evRound E n l as h:=fun n _ h=>(mono n).round _ _ _ _ h
theorem gCode {c:SCode} {F:Fr} {h:AHeap}:Grows fun n=>evCode E n c F h:=fun n _ h=>(mono n).code _ _ _ _ h
theorem EvClosed_some {f:AV} {as:List AV} {r:AV}:EvClosed E f as = some r ↔ ∃ n,evClosed E n f as = some r:=lim_iff gClosed
theorem EvCode_some {c:SCode} {F:Fr} {h:AHeap} {r:AExit × Fr × AHeap}:EvCode E c F h = some r ↔ ∃ n,evCode E n c F h = some r:=lim_iff gCode
theorem lim_step {α:Type} {f g:Nat→Option α} (gf:Grows f) (gg:Grows g) (h0:f 0 = none) (hs:∀ n,f (n + 1) = g n):lim f = lim g:=by
 refine lim_ext gf fun r=>⟨?_,fun h=>?_⟩
 ·rintro ⟨n,hn⟩
  cases n with
  | zero=>rw [h0] at hn; cases hn
  | succ n=>
   rw [hs] at hn
   exact (lim_iff gg).2 ⟨n,hn⟩
 ·obtain ⟨n,hn⟩:=(lim_iff gg).1 h
  exact ⟨n + 1,by rw [hs]; exact hn⟩
theorem lim_const {α:Type} {f:Nat→Option α} (gf:Grows f) (h0:f 0 = none) {o:Option α} (hs:∀ n,f (n + 1) = o):lim f = o:=by
 refine lim_ext gf fun r=>⟨?_,fun h=>⟨1,by rw [hs]; exact h⟩⟩
 rintro ⟨n,hn⟩
 cases n with
 | zero=>rw [h0] at hn; cases hn
 | succ n=>rw [hs] at hn; exact hn
theorem lim_map {α β:Type} {f:Nat→Option β} {g:Nat→Option α} (k:Option α→Option β) (hk:k none = none) (gf:Grows f) (gg:Grows g) (h0:f 0 = none) (hs:∀ n,f (n + 1) = k (g n)):lim f = k (lim g):=by
 refine lim_ext gf fun r=>⟨?_,fun h=>?_⟩
 ·rintro ⟨n,hn⟩
  cases n with
  | zero=>rw [h0] at hn; cases hn
  | succ n=>
   rw [hs] at hn
   cases hg:g n with
   | none=>rw [hg,hk] at hn; cases hn
   | some a=>
    rw [(lim_iff gg).2 ⟨n,hg⟩,← hg]
    exact hn
 ·cases hg:lim g with
  | none=>rw [hg,hk] at h; cases h
  | some a=>
   obtain ⟨n,hn⟩:=(lim_iff gg).1 hg
   exact ⟨n + 1,by rw [hs,hn,← hg]; exact h⟩
theorem runDefs_lim {c:Nat→Nat→List AV→Option AV→AHeap→Option (Option AV × AHeap)} (gc:∀ j as p h,Grows fun n=>c n j as p h):∀ {ds:List (Nat × List AV)} {p:Option AV} {h:AHeap} {r:Option AV × AHeap},
  runDefs (fun j as p h=>lim fun n=>c n j as p h) ds p h = some r→∃ n,runDefs (c n) ds p h = some r
 | [],p,h,r,he=>⟨0,he⟩
 | d :: ds,p,h,r,he=>by
  simp only [runDefs] at he
  split at he
  ·rename_i p' h' h1
   obtain ⟨n,hn⟩:=(lim_iff (gc _ _ _ _)).1 h1
   obtain ⟨m,hm⟩:=runDefs_lim gc he
   refine ⟨max n m,?_⟩
   simp only [runDefs]
   rw [(gc _ _ _ _).le (Nat.le_max_left n m) hn]
   exact runDefs_mono (fun j as p h r hr=>(gc j as p h).le (Nat.le_max_right n m) hr) hm
  ·cases he
theorem EvFn_eq (sf:SFunc) (as:List AV) (h:AHeap):EvFn E sf as h = endFn sf (EvDef E) (EvCode E sf.body (start sf as) h):=by
 refine lim_ext gFn fun r=>⟨?_,fun he=>?_⟩
 ·rintro ⟨n,hn⟩
  cases n with
  | zero=>simp [evFn] at hn
  | succ n=>
   simp only [evFn] at hn
   exact endFn_mono (fun j as p h r hr=>(lim_iff gDef).2 ⟨n,hr⟩) (fun r hr=>(lim_iff gCode).2 ⟨n,hr⟩) hn
 ·cases hq:EvCode E sf.body (start sf as) h with
  | none=>rw [hq] at he; simp [endFn] at he
  | some q=>
   rw [hq] at he
   obtain ⟨n,hn⟩:=EvCode_some.1 hq
   have key:∃ m,endFn sf (evDef E m) (some q) = some r:=by
    obtain ⟨x,F,h⟩:=q
    have sub:∀ p,endRes sf F (runDefs (EvDef E) F.ds p h) = some r→∃ m,endRes sf F (runDefs (evDef E m) F.ds p h) = some r:=fun p hp=>by
     cases hd:runDefs (EvDef E) F.ds p h with
     | none=>rw [hd] at hp; simp [endRes] at hp
     | some d=>
      obtain ⟨m,hm⟩:=runDefs_lim (c:=evDef E) (fun j as p h=>gDef) hd
      exact ⟨m,by rw [hm,← hd]; exact hp⟩
    cases x with
    | exit id=>simp [endFn] at he
    | normal=>simp only [endFn] at he ⊢; exact sub _ he
    | ret=>simp only [endFn] at he ⊢; exact sub _ he
    | panic v=>simp only [endFn] at he ⊢; exact sub _ he
   obtain ⟨m,hm⟩:=key
   refine ⟨max n m + 1,?_⟩
   simp only [evFn]
   exact endFn_mono (fun j as p h r hr=>gDef.le (Nat.le_max_right n m) hr) (fun r hr=>gCode.le (Nat.le_max_left n m) (hn.trans hr)) hm
theorem EvClosed_eq {j:Nat} {first caps as vs:List AV} {sf:SFunc} (hf:E.code j = some sf) (hm:sf.mode = .closed) (hs:shutL 0 0 (first++as++caps) = some vs):EvClosed E (.fn (.func j) first caps) as = closedEnd (EvFn E sf vs heap0):=by
 obtain ⟨h1,h2⟩:=code_spec hf
 exact lim_map closedEnd rfl gClosed gFn (by simp [evClosed]) fun n=>by simp only [evClosed,h1,h2,hm,hs]
theorem EvClosed_ext {j:Nat} {first caps as vs:List AV} {g:List AV→Option AV} (hx:E.ext j = some g) (hs:shutL 0 0 (first++as++caps) = some vs):EvClosed E (.fn (.func j) first caps) as = g vs:=
 lim_const gClosed (by simp [evClosed]) fun n=>by simp only [evClosed,hx,hs,Option.bind_some]
theorem EvCall_ext {j:Nat} {first caps as:List AV} {g:List AV→Option AV} (hx:E.ext j = some g) (h:AHeap):EvCall E (.fn (.func j) first caps) as h = (EvClosed E (.fn (.func j) first caps) as).map fun v=>(.ret v,h):=
 lim_map (Option.map fun v=>(CRes.ret v,h)) rfl gCall gClosed (by simp [evCall]) fun n=>by simp [evCall,hx]
theorem EvCall_closed {j:Nat} {first caps as:List AV} {sf:SFunc} (hf:E.code j = some sf) (hm:sf.mode = .closed) (h:AHeap):EvCall E (.fn (.func j) first caps) as h = (EvClosed E (.fn (.func j) first caps) as).map fun v=>(.ret v,h):=by
 obtain ⟨h1,h2⟩:=code_spec hf
 exact lim_map (Option.map fun v=>(CRes.ret v,h)) rfl gCall gClosed (by simp [evCall]) fun n=>by simp [evCall,h1,h2,hm]
theorem EvCall_open {j:Nat} {first caps as:List AV} {sf:SFunc} (hf:E.code j = some sf) (hm:sf.mode = .open_) (h:AHeap):EvCall E (.fn (.func j) first caps) as h = EvFn E sf (first++as++caps) h:=by
 obtain ⟨h1,h2⟩:=code_spec hf
 exact lim_step gCall gFn (by simp [evCall]) fun n=>by simp [evCall,h1,h2,hm]
theorem EvCall_reader {j:Nat} {first caps as:List AV} {sf:SFunc} (hf:E.code j = some sf) (hm:sf.mode = .reader) (h:AHeap):EvCall E (.fn (.func j) first caps) as h = readEnd h (EvFn E sf (first++as++caps) h.still):=by
 obtain ⟨h1,h2⟩:=code_spec hf
 exact lim_map (readEnd h) rfl gCall gFn (by simp [evCall]) fun n=>by simp [evCall,h1,h2,hm]
theorem EvDef_eq {j:Nat} {as:List AV} {p:Option AV} {h:AHeap} {sf:SFunc} (hf:E.code j = some sf):EvDef E j as p h = endDef sf (EvS E sf.body (startD sf as) p h):=by
 obtain ⟨h1,h2⟩:=code_spec hf
 exact lim_map (endDef sf) rfl gDef gS (by simp [evDef]) fun n=>by simp [evDef,h1,h2]
theorem EvS_seq (a b:SCode) (F:Fr) (p:Option AV) (h:AHeap):EvS E (.seq a b) F p h = thenS (EvS E b) (EvS E a F p h):=by
 refine lim_ext gS fun r=>⟨?_,fun he=>?_⟩
 ·rintro ⟨n,hn⟩
  cases n with
  | zero=>simp [evS] at hn
  | succ n=>
   simp only [evS] at hn
   exact thenS_mono (fun F p h r hr=>(lim_iff gS).2 ⟨n,hr⟩) (fun r hr=>(lim_iff gS).2 ⟨n,hr⟩) hn
 ·cases hg:EvS E a F p h with
  | none=>rw [hg] at he; cases he
  | some q=>
   obtain ⟨x,F1,p1,h1⟩:=q
   rw [hg] at he
   obtain ⟨n,hn⟩:=(lim_iff gS).1 hg
   cases x with
   | normal=>
    obtain ⟨m,hm⟩:=(lim_iff gS).1 he
    refine ⟨max n m + 1,?_⟩
    simp only [evS]
    rw [gS.le (Nat.le_max_left n m) hn]
    exact gS.le (Nat.le_max_right n m) hm
   | exit id=>exact ⟨n + 1,by simp only [evS]; rw [hn]; exact he⟩
   | ret=>exact ⟨n + 1,by simp only [evS]; rw [hn]; exact he⟩
   | panic v=>exact ⟨n + 1,by simp only [evS]; rw [hn]; exact he⟩
theorem s_lim {c:SCode} {F:Fr} {p:Option AV} {h:AHeap} (hs:∀ n,evS E (n + 1) c F p h = (evCode E n c F h).map fun r=>(r.1,r.2.1,p,r.2.2)):EvS E c F p h = (EvCode E c F h).map fun r=>(r.1,r.2.1,p,r.2.2):=
 lim_map (Option.map fun (r:AExit × Fr × AHeap)=>(r.1,r.2.1,p,r.2.2)) rfl gS gCode (by simp [evS]) hs
theorem EvS_region (os:List SOper) (F:Fr) (p:Option AV) (h:AHeap):EvS E (.region false os) F p h = if os.any (fun o=>o.op.isRecover) then (evOpsR E p os F h).map fun r=>(.normal,r.2.1,r.1,r.2.2) else (EvCode E (.region false os) F h).map fun r=>(r.1,r.2.1,p,r.2.2):=by
 split
 ·rename_i hr
  refine lim_const gS (by simp [evS]) fun n=>?_
  rw [evS]
  simp only [hr,if_true]
 ·rename_i hr
  refine s_lim fun n=>?_
  rw [evS]
  simp only [hr]
  rfl
theorem EvS_skip (F:Fr) (p:Option AV) (h:AHeap):EvS E .skip F p h = (EvCode E .skip F h).map fun r=>(r.1,r.2.1,p,r.2.2):=s_lim fun n=>by simp only [evS]
theorem EvS_cond (c:SOpd) (a b:SCode) (F:Fr) (p:Option AV) (h:AHeap):EvS E (.cond c a b) F p h = (EvCode E (.cond c a b) F h).map fun r=>(r.1,r.2.1,p,r.2.2):=s_lim fun n=>by simp only [evS]
theorem EvS_ret (k:List Bool) (F:Fr) (p:Option AV) (h:AHeap):EvS E (.ret k) F p h = (EvCode E (.ret k) F h).map fun r=>(r.1,r.2.1,p,r.2.2):=s_lim fun n=>by simp only [evS]
theorem EvS_block (i:Nat) (k:List Bool) (c:SCode) (F:Fr) (p:Option AV) (h:AHeap):EvS E (.block i k c) F p h = (EvCode E (.block i k c) F h).map fun r=>(r.1,r.2.1,p,r.2.2):=s_lim fun n=>by simp only [evS]
theorem EvS_scope (c:SCode) (F:Fr) (p:Option AV) (h:AHeap):EvS E (.scope c) F p h = (EvCode E (.scope c) F h).map fun r=>(r.1,r.2.1,p,r.2.2):=s_lim fun n=>by simp only [evS]
theorem EvCall_yield {l:Nat} {as:List AV} (h:AHeap):EvCall E (.fn (.yield l) [] []) as h = EvRound E l as h:=
 lim_step gCall gRound (by simp [evCall]) fun n=>by simp [evCall]
theorem EvCode_skip (F:Fr) (h:AHeap):EvCode E .skip F h = some (.normal,F,h):=lim_const gCode (by simp [evCode]) fun n=>by simp [evCode]
theorem EvCode_exit (id:Nat) (k:List Bool) (F:Fr) (h:AHeap):EvCode E (.exit id k) F h = some (.exit id,mask k F,h):=lim_const gCode (by simp [evCode]) fun n=>by simp [evCode]
theorem EvCode_ret (k:List Bool) (F:Fr) (h:AHeap):EvCode E (.ret k) F h = some (.ret,mask k F,h):=lim_const gCode (by simp [evCode]) fun n=>by simp [evCode]
theorem EvCode_scope (c:SCode) (F:Fr) (h:AHeap):EvCode E (.scope c) F h = EvCode E c F h:=lim_step gCode gCode (by simp [evCode]) fun n=>by simp [evCode]
theorem EvCode_block (id:Nat) (k:List Bool) (c:SCode) (F:Fr) (h:AHeap):EvCode E (.block id k c) F h = blockEnd id k (EvCode E c F h):=
 lim_map (blockEnd id k) rfl gCode gCode (by simp [evCode]) fun n=>by simp [evCode]
theorem EvCode_cond (c:SOpd) (a b:SCode) (F:Fr) (h:AHeap):EvCode E (.cond c a b) F h = match opd E F c with | .bool true=>EvCode E a F h | .bool false=>EvCode E b F h | _=>none:=by
 split
 ·rename_i hq
  exact lim_step gCode gCode (by simp [evCode]) fun n=>by simp [evCode,hq]
 ·rename_i hq
  exact lim_step gCode gCode (by simp [evCode]) fun n=>by simp [evCode,hq]
 ·rename_i h1 h2
  refine lim_const gCode (by simp [evCode]) fun n=>?_
  simp only [evCode]
theorem then_lim {f g:Nat→Out} {k:Nat→Fr→AHeap→Out} (gf:Grows f) (gg:Grows g) (gk:∀ F h,Grows fun n=>k n F h) (h0:f 0 = none) (hs:∀ n,f (n + 1) = thenDo (k n) (g n)):lim f = thenDo (fun F h=>lim fun n=>k n F h) (lim g):=by
 refine lim_ext gf fun r=>⟨?_,fun h=>?_⟩
 ·rintro ⟨n,hn⟩
  cases n with
  | zero=>rw [h0] at hn; cases hn
  | succ n=>
   rw [hs] at hn
   exact thenDo_mono (fun F h r hr=>(lim_iff (gk F h)).2 ⟨n,hr⟩) (fun r hr=>(lim_iff gg).2 ⟨n,hr⟩) hn
 ·cases hg:lim g with
  | none=>rw [hg] at h; cases h
  | some p=>
   obtain ⟨x,F,hh⟩:=p
   rw [hg] at h
   obtain ⟨n,hn⟩:=(lim_iff gg).1 hg
   cases x with
   | normal=>
    obtain ⟨m,hm⟩:=(lim_iff (gk F hh)).1 h
    refine ⟨max n m + 1,?_⟩
    rw [hs,gg.le (Nat.le_max_left n m) hn]
    exact (gk F hh).le (Nat.le_max_right n m) hm
   | exit id=>exact ⟨n + 1,by rw [hs,hn]; exact h⟩
   | ret=>exact ⟨n + 1,by rw [hs,hn]; exact h⟩
   | panic v=>exact ⟨n + 1,by rw [hs,hn]; exact h⟩
theorem EvCode_seq (a b:SCode) (F:Fr) (h:AHeap):EvCode E (.seq a b) F h = thenDo (EvCode E b) (EvCode E a F h):=
 then_lim gCode gCode (fun F h=>gCode) (by simp [evCode]) fun n=>by simp [evCode]
theorem EvCode_loop (k:List Bool) (c:SCode) (F:Fr) (h:AHeap):EvCode E (.loop k c) F h = thenDo (EvCode E (.loop k c)) (EvCode E c (mask k F) h):=
 then_lim gCode gCode (fun F h=>gCode) (by simp [evCode]) fun n=>by simp [evCode]
theorem EvCode_rangeFunc {f:SOpd} {ps:List Nat} {a b:SCode} {F:Fr} {h:AHeap} {j:Nat} {first caps:List AV} (hf:opd E F f = .fn (.func j) first caps) (hnd:F.rnd ≠ .defd):
  EvCode E (.rangeFunc f ps a b) F h = endRange h.blks.length F (EvCall E (.fn (.func j) first caps) [.fn (.yield h.blks.length) [] []] (h.push (.loop .ready none F.t ps a b))):=
 lim_map (endRange h.blks.length F) rfl gCode gCall (by simp [evCode]) fun n=>by simp [evCode,hf,hnd]
theorem begin_lim {l:Nat} {f g:Nat→Out} {k:Nat→Fr→AHeap→Out} (gg:Grows g) (gk:∀ F h,Grows fun n=>k n F h) (hs:∀ n,f n = beginRd l (k n) (g n)):Grows f∧lim f = beginRd l (fun F h=>lim fun n=>k n F h) (lim g):=by
 have gf:Grows f:=fun n r hn=>by
  rw [hs] at hn ⊢
  exact beginRd_mono (fun F h r hr=>gk F h n r hr) (fun r hr=>gg n r hr) hn
 refine ⟨gf,lim_ext gf fun r=>⟨?_,fun h=>?_⟩⟩
 ·rintro ⟨n,hn⟩
  rw [hs] at hn
  exact beginRd_mono (fun F h r hr=>(lim_iff (gk F h)).2 ⟨n,hr⟩) (fun r hr=>(lim_iff gg).2 ⟨n,hr⟩) hn
 ·cases hg:lim g with
  | none=>rw [hg] at h; cases h
  | some p=>
   rw [hg] at h
   obtain ⟨n,hn⟩:=(lim_iff gg).1 hg
   unfold beginRd at h
   split at h
   ·rename_i F hh heq
    cases heq
    split at h
    ·rename_i q0
     split at h
     ·rename_i q1 q2
      obtain ⟨m,hm⟩:=(lim_iff (gk _ _)).1 h
      refine ⟨max n m,?_⟩
      rw [hs,gg.le (Nat.le_max_left n m) hn]
      simp only [beginRd,q0,q1,q2,if_true]
      exact (gk _ _).le (Nat.le_max_right n m) hm
     ·cases h
    ·cases h
   ·cases h
theorem EvRound_eq {l:Nat} {as:List AV} {h:AHeap} {pend:Option AJump} {tmps:List AV} {ps:List Nat} {a b:SCode} (hl:h.blks[l]? = some (.loop .ready pend tmps ps a b)) (hlen:as.length = ps.length):
  EvRound E l as h = endRd l (beginRd l (EvCode E b) (EvCode E a { t:=setAll ps as tmps,ds:=[],rnd:=.round } h)):=by
 obtain ⟨g1,g2⟩:=begin_lim (l:=l) (f:=fun n=>beginRd l (evCode E n b) (evCode E n a { t:=setAll ps as tmps,ds:=[],rnd:=.round } h)) (g:=fun n=>evCode E n a { t:=setAll ps as tmps,ds:=[],rnd:=.round } h) (k:=fun n=>evCode E n b) gCode (fun F h=>gCode) fun n=>rfl
 have:=lim_map (f:=fun n=>evRound E n l as h) (endRd l) rfl gRound g1 (by simp [evRound]) fun n=>by simp [evRound,hl,hlen]
 rw [g2] at this
 exact this
theorem oper_lim {c:Nat→AV→List AV→AHeap→Option (CRes × AHeap)} (gc:∀ f as h,Grows fun n=>c n f as h) {o:SOper} {F:Fr} {h:AHeap} {r:AExit × Fr × AHeap}:
  (∃ n,evOper E (c n) o F h = some r) ↔ evOper E (fun f as h=>lim fun n=>c n f as h) o F h = some r:=by
 constructor
 ·rintro ⟨n,hn⟩
  exact evOper_mono (fun f as h r hr=>(lim_iff (gc f as h)).2 ⟨n,hr⟩) hn
 ·intro he
  unfold evOper at he ⊢
  split at he
  ·cases he
  ·exact ⟨0,he⟩
  ·cases hop:o.op <;> rw [hop] at he <;> first | exact ⟨0,he⟩ | skip
   simp only at he ⊢
   split at he
   ·cases he
   ·rename_i h1
    obtain ⟨n,hn⟩:=(lim_iff (gc _ _ _)).1 h1
    exact ⟨n,by rw [hn]; exact he⟩
   ·rename_i h1
    obtain ⟨n,hn⟩:=(lim_iff (gc _ _ _)).1 h1
    exact ⟨n,by rw [hn]; exact he⟩
theorem ops_lim {c:Nat→AV→List AV→AHeap→Option (CRes × AHeap)} (gc:∀ f as h,Grows fun n=>c n f as h):∀ {os:List SOper} {F:Fr} {h:AHeap} {r:AExit × Fr × AHeap},
  (∃ n,evOps E (c n) os F h = some r) ↔ evOps E (fun f as h=>lim fun n=>c n f as h) os F h = some r
 | [],F,h,r=>by simp [evOps]
 | o :: os,F,h,r=>by
  constructor
  ·rintro ⟨n,hn⟩
   exact evOps_mono (fun f as h r hr=>(lim_iff (gc f as h)).2 ⟨n,hr⟩) hn
  ·intro he
   simp only [evOps] at he
   split at he
   ·rename_i h1
    obtain ⟨n,hn⟩:=(oper_lim gc).2 h1
    obtain ⟨m,hm⟩:=(ops_lim gc (os:=os)).2 he
    refine ⟨max n m,?_⟩
    simp only [evOps]
    rw [evOper_mono (fun f as h r hr=>(gc f as h).le (Nat.le_max_left n m) hr) hn]
    exact evOps_mono (fun f as h r hr=>(gc f as h).le (Nat.le_max_right n m) hr) hm
   ·rename_i hne
    obtain ⟨n,hn⟩:=(oper_lim gc).2 he
    refine ⟨n,?_⟩
    simp only [evOps]
    rw [hn]
    obtain ⟨x,F',h'⟩:=r
    cases x with
    | normal=>exact absurd he (hne _ _)
    | exit id=>rfl
    | ret=>rfl
    | panic v=>rfl
theorem EvCode_region (os:List SOper) (F:Fr) (h:AHeap):EvCode E (.region false os) F h = evOps E (EvCall E) os F h:=by
 refine lim_ext gCode fun r=>⟨?_,fun he=>?_⟩
 ·rintro ⟨n,hn⟩
  cases n with
  | zero=>simp [evCode] at hn
  | succ n=>
   simp only [evCode] at hn
   exact (ops_lim (c:=evCall E) (fun f as h=>gCall)).1 ⟨n,hn⟩
 ·obtain ⟨n,hn⟩:=(ops_lim (c:=evCall E) (fun f as h=>gCall)).2 he
  exact ⟨n + 1,by simp only [evCode]; exact hn⟩
theorem draw1_lim {c:Nat→AV→List AV→Option AV} (gc:∀ f as,Grows fun n=>c n f as) {o:SOper} {F:Fr} {h:AHeap} {r:Fr × AHeap}:
  evDraw1 E (fun f as=>lim fun n=>c n f as) o F h = some r→∃ n,evDraw1 E (c n) o F h = some r:=by
 intro he
 unfold evDraw1 at he ⊢
 split at he
 ·cases he
 ·exact ⟨0,he⟩
 ·cases hop:o.op <;> rw [hop] at he <;> first | exact ⟨0,he⟩ | skip
  simp only [Option.map_eq_some_iff] at he ⊢
  obtain ⟨v,h1,h2⟩:=he
  obtain ⟨n,hn⟩:=(lim_iff (gc _ _)).1 h1
  exact ⟨n,v,hn,h2⟩
theorem draw_lim {c:Nat→AV→List AV→Option AV} (gc:∀ f as,Grows fun n=>c n f as):∀ {os:List SOper} {F:Fr} {h:AHeap} {r:Fr × AHeap},
  evDraw E (fun f as=>lim fun n=>c n f as) os F h = some r→∃ n,evDraw E (c n) os F h = some r
 | [],F,h,r,he=>⟨0,he⟩
 | o :: os,F,h,r,he=>by
  obtain ⟨F1,h1,q1,q2⟩:=evDraw_cons.1 he
  obtain ⟨n,hn⟩:=draw1_lim gc q1
  obtain ⟨m,hm⟩:=draw_lim gc q2
  exact ⟨max n m,evDraw_cons.2 ⟨F1,h1,evDraw1_mono (fun f as r hr=>(gc f as).le (Nat.le_max_left n m) hr) hn,evDraw_mono (fun f as r hr=>(gc f as).le (Nat.le_max_right n m) hr) hm⟩⟩
theorem EvCode_draw (os:List SOper) (F:Fr) (h:AHeap):EvCode E (.region true os) F h = (evDraw E (EvClosed E) os F h).map fun p=>(.normal,p.1,p.2):=by
 refine lim_ext gCode fun r=>⟨?_,fun he=>?_⟩
 ·rintro ⟨n,hn⟩
  cases n with
  | zero=>simp [evCode] at hn
  | succ n=>
   simp only [evCode,Option.map_eq_some_iff] at hn ⊢
   obtain ⟨p,h1,h2⟩:=hn
   exact ⟨p,evDraw_mono (fun f as r hr=>(lim_iff gClosed).2 ⟨n,hr⟩) h1,h2⟩
 ·simp only [Option.map_eq_some_iff] at he
  obtain ⟨p,h1,h2⟩:=he
  obtain ⟨n,hn⟩:=draw_lim (c:=evClosed E) (fun f as=>gClosed) h1
  exact ⟨n + 1,by simp only [evCode,hn,Option.map_some,h2]⟩
theorem EvCode_mixed (pre:List SOper) (c:SOper) (post:List SOper) (F:Fr) (h:AHeap):EvCode E (.mixed pre c post) F h = evMixed E (EvClosed E) (EvCall E) pre c post F h:=by
 refine lim_ext gCode fun r=>⟨?_,fun he=>?_⟩
 ·rintro ⟨n,hn⟩
  cases n with
  | zero=>simp [evCode] at hn
  | succ n=>
   simp only [evCode] at hn
   exact evMixed_mono (fun f as r hr=>(lim_iff gClosed).2 ⟨n,hr⟩) (fun f as h r hr=>(lim_iff gCall).2 ⟨n,hr⟩) hn
 ·unfold evMixed at he
  split at he
  ·cases he
  ·rename_i F1 g h1
   split at he
   ·rename_i F2 h2 h3
    split at he
    ·rename_i hT
     simp only [Option.map_eq_some_iff] at he
     obtain ⟨p,h4,h5⟩:=he
     obtain ⟨n,hn⟩:=draw_lim (c:=evClosed E) (fun f as=>gClosed) h4
     obtain ⟨m,hm⟩:=(oper_lim (c:=evCall E) (fun f as h=>gCall)).2 h3
     refine ⟨max n m + 1,?_⟩
     simp only [evCode]
     unfold evMixed
     rw [h1]
     simp only
     rw [evOper_mono (fun f as h r hr=>gCall.le (Nat.le_max_right n m) hr) hm]
     simp only
     rw [if_pos hT,evDraw_mono (fun f as r hr=>gClosed.le (Nat.le_max_left n m) hr) hn]
     simp only [Option.map_some,h5]
    ·cases he
   ·cases he
theorem val1_lim {o:SOper} {F:Fr} {h:AHeap} {p:AV × AHeap} (he:val1 E (EvClosed E) o F h = some p):∃ n,val1 E (evClosed E n) o F h = some p:=by
 unfold val1 at he ⊢
 cases hw:wanted o.guard F with
 | none=>rw [hw] at he; cases he
 | some b=>
  rw [hw] at he
  cases b with
  | false=>exact ⟨0,he⟩
  | true=>
   simp only at he ⊢
   cases hop:o.op with
   | call f args=>
    rw [hop] at he
    simp only [Option.map_eq_some_iff] at he
    obtain ⟨v,h1,h2⟩:=he
    obtain ⟨n,hn⟩:=(lim_iff gClosed).1 h1
    exact ⟨n,by simp only [hn,Option.map_some,h2]⟩
   | _=>rw [hop] at he; exact ⟨0,he⟩
theorem stP_lim {p:Fr × AHeap}:∀ {ops:List (SOper × Nat)} {pend:List (Nat × (AHeap→Prop))} {F:Fr} {h:AHeap},StP E (EvClosed E) ops pend F h p→∃ n,StP E (evClosed E n) ops pend F h p
 | [],_,_,_,he=>⟨0,he⟩
 | (o,k) :: os,pend,F,h,he=>by
  obtain ⟨v,h',q1,q2,q3⟩:=he
  obtain ⟨n,hn⟩:=val1_lim q1
  obtain ⟨m,hm⟩:=stP_lim q3
  exact ⟨max n m,v,h',val1_mono (fun f as r hr=>gClosed.le (Nat.le_max_left n m) hr) hn,q2,stP_mono (fun f as r hr=>gClosed.le (Nat.le_max_right n m) hr) hm⟩
theorem EvCode_stored (ops:List (SOper × Nat)) (F:Fr) (h:AHeap):EvCode E (.stored ops) F h = evStored E (EvClosed E) ops F h:=by
 refine lim_ext gCode fun r=>⟨?_,fun he=>?_⟩
 ·rintro ⟨n,hn⟩
  cases n with
  | zero=>simp [evCode] at hn
  | succ n=>
   simp only [evCode] at hn
   exact evStored_mono (fun f as r hr=>(lim_iff gClosed).2 ⟨n,hr⟩) hn
 ·unfold evStored at he
  split at he
  ·cases he
  ·rename_i p h1
   split at he
   ·rename_i hT
    obtain ⟨n,hn⟩:=draw_lim (c:=evClosed E) (fun f as=>gClosed) h1
    obtain ⟨m,hm⟩:=stP_lim hT
    refine ⟨max n m + 1,?_⟩
    simp only [evCode]
    unfold evStored
    rw [evDraw_mono (fun f as r hr=>gClosed.le (Nat.le_max_left n m) hr) hn]
    simp only
    rw [if_pos (stP_mono (fun f as r hr=>gClosed.le (Nat.le_max_right n m) hr) hm)]
    exact he
   ·cases he
end Go.Pv
/- From a call's beginning to the evaluator, and back from its end. Conditions: what the program's globals hold; lemmas. -/
namespace Go.Pv
open Go.RowKit Go.ChangeShapes
variable {T:Tie} {E:Env} {W W':World}
def Ghost.met (W:World):Ghost:={ mu:=[],vals:=fun b=>match W.heap[b]? with | some (.cells c _ _)=>some c.size | _=>none,tau:=fun _ _=>none,ro:=0,rot:=0 }
theorem met_vals {b:Nat} {m:Nat} (h:(Ghost.met W).vals b = some m):∃ c e fz,W.heap[b]? = some (.cells c e fz)∧m = c.size:=by
 simp only [Ghost.met] at h
 split at h
 ·rename_i c e fz hb
  cases h
  exact ⟨c,e,fz,hb,rfl⟩
 ·cases h
theorem inv_met (hg:∀ g cs,E.glob g = some cs→∃ c e fz l,W.heap[T.gnum g]? = some (.cells c e fz)∧RepL T (Ghost.met W) W cs l∧(∀ (i:Nat) (v:Value),l[i]? = some v→c[i]? = some v)∧c.size = l.length):Inv T E (Ghost.met W) heap0 W where
 len:=rfl
 inj:=fun i j r h=>by simp [Ghost.met] at h
 lt:=fun r hr=>by cases hr
 blk:=fun i b r hb=>by simp [heap0] at hb
 vlt:=fun b m hb=>by
  obtain ⟨c,e,fz,h1,_⟩:=met_vals hb
  exact heap_lt h1
 vmu:=fun b m _ hm=>by cases hm
 vcell:=fun b m hb=>by
  obtain ⟨c,e,fz,h1,h2⟩:=met_vals hb
  exact ⟨c,e,fz,h1,by omega⟩
 tlt:=fun k n b hb=>by simp [Ghost.met] at hb
 tok:=fun k n hk=>by simp [heap0] at hk
 tmax:=fun k n b N hb=>by simp [Ghost.met] at hb
 tdisj:=fun k n b k' n' hb=>by simp [Ghost.met] at hb
 ro:=rfl
 rot:=rfl
 rle:=Nat.le_refl _
 rtle:=Nat.le_refl _
 glob:=fun g cs hgc=>by
  obtain ⟨c,e,fz,l,h1,h2,h3,h4⟩:=hg g cs hgc
  refine ⟨?_,c,e,fz,h1,by rw [h4,h2.length]⟩
  simp only [RepV]
  refine ⟨T.gnum g,0,c.size,rfl,by simp [Ghost.met,h1],?_,?_⟩
  ·rw [Nat.zero_add,← h2.length]
   rcases Nat.lt_or_ge c.size l.length with hlt | hge
   ·exfalso
    have:=h3 c.size l[c.size] (List.getElem?_eq_getElem hlt)
    simp at this
   ·exact hge
  ·refine RepM.of_list h2 fun j v hj=>?_
   simp only [World.cell?,h1,Nat.zero_add]
   exact h3 j v hj
def fieldCells {H:Type} (f:TypeId→DataW H→Option (List AV)) (P:Program):Nat→List Field→List (DataW H)→Option (List AV)
 | _,[],[]=>some []
 | off,fl :: fs,d :: ds=>
  if fl.offset = off then
   match f fl.type d,fieldCells f P (off + P.cellsOf fl.type) fs ds with
   | some a,some b=>if a.length = P.cellsOf fl.type then some (a++b) else none
   | _,_=>none
  else none
 | _,_,_=>none
def elemCells {H:Type} (f:DataW H→Option (List AV)) (n:Nat):List (DataW H)→Option (List AV)
 | []=>some []
 | d :: ds=>
  match f d,elemCells f n ds with
  | some a,some b=>if a.length = n then some (a++b) else none
  | _,_=>none
def dCells {H:Type} (P:Program):Nat→TypeId→DataW H→Option (List AV)
 | 0,_,_=>none
 | n + 1,t,d=>
  match P.underlying t,d with
  | some .bool,.lit (.bool b)=>some [.bool b]
  | some (.int k),.lit (.int k' m)=>if k' = k then some [.int k m] else none
  | some .string,.lit (.string s)=>some [.str s]
  | some (.struct fs),.agg ds=>(fieldCells (dCells P n) P 0 fs.toList ds).bind fun l=>if l.length = P.cellsOf t then some l else none
  | some (.array len e),.agg ds=>(elemCells (dCells P n e) (P.cellsOf e) ds).bind fun l=>if l.length = P.cellsOf t∧ds.length = len then some l else none
  | _,_=>none
theorem repL_cut {G:Ghost} {as bs:List AV} {l:List Value} {m k:Nat} (h1:RepL T G W as ((l.drop m).take as.length)) (h2:RepL T G W bs ((l.drop (m + as.length)).take k)) (_hk:bs.length = k):
  RepL T G W (as++bs) ((l.drop m).take (as.length + k)):=by
 have:(l.drop m).take (as.length + k) = (l.drop m).take as.length++(l.drop (m + as.length)).take k:=by
  rw [List.take_add,List.drop_drop]
 rw [this]
 exact RepL.append h1 h2
theorem fieldCells_rep {H:Type} {G:Ghost} {f:TypeId→DataW H→Option (List AV)} {tr:TypeId→List Value→Option (DataW H × List MemPlace)} {P:Program}
  (hf:∀ t cs d p l,tr t cs = some (d,p)→f t d = some l→RepL T G W l cs) (cs:List Value):
  ∀ (fs:List Field) (off:Nat) (xs:List (DataW H × List MemPlace)) (l:List AV),fs.mapM (fun fl=>tr fl.type ((cs.drop fl.offset).take (P.cellsOf fl.type))) = some xs→fieldCells f P off fs (xs.map (·.1)) = some l→RepL T G W l ((cs.drop off).take l.length)
 | [],off,xs,l,hm,hl=>by
  simp at hm
  subst hm
  simp only [List.map_nil,fieldCells] at hl
  cases hl
  simp [RepL]
 | fl :: fs,off,xs,l,hm,hl=>by
  simp only [List.mapM_cons,Option.pure_def,Option.bind_eq_bind,Option.bind_eq_some_iff] at hm
  obtain ⟨x,h1,ys,h2,h3⟩:=hm
  cases h3
  obtain ⟨d,p⟩:=x
  simp only [List.map_cons,fieldCells] at hl
  split at hl
  ·rename_i hoff
   subst hoff
   split at hl
   ·rename_i q r hq hr
    split at hl
    ·rename_i hlen
     cases hl
     have r1:=hf _ _ _ _ _ h1 hq
     rw [← hlen] at r1 hr
     have r2:=fieldCells_rep hf cs fs _ ys r h2 hr
     rw [List.length_append]
     exact repL_cut r1 r2 rfl
    ·cases hl
   ·cases hl
  ·cases hl
theorem elemCells_rep {H:Type} {G:Ghost} {f:DataW H→Option (List AV)} {tr:List Value→Option (DataW H × List MemPlace)} {n:Nat}
  (hf:∀ cs d p l,tr cs = some (d,p)→f d = some l→RepL T G W l cs) (cs:List Value):
  ∀ (k i:Nat) (xs:List (DataW H × List MemPlace)) (l:List AV),(List.range' i k).mapM (fun j=>tr ((cs.drop (j * n)).take n)) = some xs→elemCells f n (xs.map (·.1)) = some l→RepL T G W l ((cs.drop (i * n)).take l.length)
 | 0,i,xs,l,hm,hl=>by
  simp at hm
  subst hm
  simp only [List.map_nil,elemCells] at hl
  cases hl
  simp [RepL]
 | k + 1,i,xs,l,hm,hl=>by
  simp only [List.range'_succ,List.mapM_cons,Option.pure_def,Option.bind_eq_bind,Option.bind_eq_some_iff] at hm
  obtain ⟨x,h1,ys,h2,h3⟩:=hm
  cases h3
  obtain ⟨d,p⟩:=x
  simp only [List.map_cons,elemCells] at hl
  split at hl
  ·rename_i q r hq hr
   split at hl
   ·rename_i hlen
    cases hl
    have r1:=hf _ _ _ _ h1 hq
    have r2:=elemCells_rep hf cs k (i + 1) ys r h2 hr
    rw [← hlen] at r1 r2
    rw [Nat.add_mul,Nat.one_mul] at r2
    rw [List.length_append]
    subst hlen
    exact repL_cut r1 r2 rfl
   ·cases hl
  ·cases hl
theorem dCells_rep {H:Type} {enc:TypeId × Value→H} {base:Nat} {sp:Nat→Bool} {held:Bool} {G:Ghost}:∀ (n fuel:Nat) (t:TypeId) (cs:List Value) (d:DataW H) (p:List MemPlace) (l:List AV),
  DataW.trod enc T.P W base sp held fuel t cs = some (d,p)→dCells T.P n t d = some l→RepL T G W l cs
 | 0,fuel,t,cs,d,p,l,_,hl=>by simp [dCells] at hl
 | n + 1,0,t,cs,d,p,l,ht,_=>by simp [DataW.trod] at ht
 | n + 1,fuel + 1,t,cs,d,p,l,ht,hl=>by
  have ih:=dCells_rep (enc:=enc) (base:=base) (sp:=sp) (held:=held) (G:=G) n fuel
  unfold dCells at hl
  split at hl
  ·rename_i b hu
   cases hl
   obtain ⟨b',rfl,hx⟩:=DataW.trod_bool hu ht
   cases hx
   simp [RepL,RepV]
  ·rename_i k k' m hu
   split at hl
   ·rename_i hk
    subst hk
    cases hl
    obtain ⟨m',rfl,hx,_⟩:=DataW.trod_int hu ht
    cases hx
    simp [RepL,RepV]
   ·cases hl
  ·rename_i s hu
   cases hl
   obtain ⟨s',rfl,hx,_⟩:=DataW.trod_string hu ht
   cases hx
   simp [RepL,RepV]
  ·rename_i fs ds hu
   simp only [Option.bind_eq_some_iff] at hl
   obtain ⟨l',h1,h2⟩:=hl
   split at h2
   ·rename_i hlen
    cases h2
    simp only [DataW.trod,hu] at ht
    split at ht
    ·rename_i hcs
     simp only [Option.map_eq_some_iff] at ht
     obtain ⟨xs,h3,h4⟩:=ht
     cases h4
     have:=fieldCells_rep (T:=T) (W:=W) (G:=G) (tr:=fun t cs=>DataW.trod enc T.P W base sp held fuel t cs) (P:=T.P) (fun t cs d p l=>ih t cs d p l) cs _ 0 xs l h3 h1
     rw [List.drop_zero,hlen,← hcs,List.take_length] at this
     exact this
    ·cases ht
   ·cases h2
  ·rename_i len e ds hu
   simp only [Option.bind_eq_some_iff] at hl
   obtain ⟨l',h1,h2⟩:=hl
   split at h2
   ·rename_i hlen
    cases h2
    simp only [DataW.trod,hu] at ht
    split at ht
    ·rename_i hcs
     simp only [Option.map_eq_some_iff] at ht
     obtain ⟨xs,h3,h4⟩:=ht
     cases h4
     rw [List.range_eq_range'] at h3
     have:=elemCells_rep (T:=T) (W:=W) (G:=G) (tr:=fun cs=>DataW.trod enc T.P W base sp held fuel e cs) (n:=T.P.cellsOf e) (fun cs d p l=>ih e cs d p l) cs len 0 xs l h3 h1
     rw [Nat.zero_mul,List.drop_zero,hlen.1,← hcs,List.take_length] at this
     exact this
    ·cases ht
   ·cases h2
  ·cases hl
theorem laid_cells {name:String} {d:DataW Unit} {r:List (String × DataW Unit)} {ps:List MemPlace} (h:DataW.LaidVars T.P W ((name,d) :: r) ps) {g:Nat} (hg:T.P.globalNamed name = some g) {t:TypeId} (ht:(T.P.globals[g]?).map (·.type) = some t) {n:Nat} {l:List AV} (hd:dCells T.P n t d = some l) (G:Ghost):
  (∃ c e fz ls,W.heap[g]? = some (.cells c e fz)∧RepL T G W l ls∧(∀ (i:Nat) (v:Value),ls[i]? = some v→c[i]? = some v)∧c.size = ls.length)∧∃ q,DataW.LaidVars T.P W r q:=by
 simp only [DataW.LaidVars] at h
 obtain ⟨g',t',cs,fuel,p,q,h1,h2,h3,h4,h5,_⟩:=h
 rw [hg] at h1
 cases h1
 rw [ht] at h2
 cases h2
 refine ⟨?_,q,h5⟩
 simp only [World.var?,hg,Option.bind_some] at h3
 split at h3
 ·rename_i c e fz hb
  cases h3
  exact ⟨_,e,fz,_,hb,dCells_rep n fuel _ _ _ p l h4 hd,fun i v hv=>by simpa using hv,by simp⟩
 ·cases h3
theorem kept_of_ext {G':Ghost} (X:Ext (Ghost.met W) W G' W') (may:MemPlace→Prop):W.keptBut W' may:=by
 refine ⟨X.os,X.output,fun i hi=>?_⟩
 have:W'.heap[i]? = W.heap[i]?:=X.frame i hi (by simp [Ghost.met]) (by simp [Ghost.met])
 rw [this]
 split <;> simp_all
theorem calls_of {j:Nat} {args:List AV} {v:AV} (O:EnvOk T E) (he:EvClosed E (.fn (.func j) [] []) args = some v) (I:Inv T E (Ghost.met W) heap0 W) {l:List Value} (hl:RepL T (Ghost.met W) W args l):
  Calls T.P (T.fnum j) ⟨l⟩ W fun e W'=>∃ u G',e = .returned u∧RepV T G' W' v u∧Ext (Ghost.met W) W G' W':=by
 obtain ⟨n,hn⟩:=EvClosed_some.1 he
 obtain ⟨as,hc,rfl⟩:=closed_calls O hn I hl
 refine (callsIn_wide.1 hc).mono fun e W' hE=>?_
 obtain ⟨G',X,_,u,rfl,hu⟩:=hE
 exact ⟨u,G',rfl,hu,X⟩
end Go.Pv
/- Equations for working the evaluator out by rewriting. Conditions: none; lemmas. -/
namespace Go.Pv
variable {E:Env}
def AHeap.bl (h:AHeap) (i:Nat):Option ABlk:=h.blks[i]?
def AHeap.tk (h:AHeap) (i:Nat):Option Nat:=h.toks[i]?
theorem blks_bl (h:AHeap) (i:Nat):h.blks[i]? = h.bl i:=id rfl
theorem toks_tk (h:AHeap) (i:Nat):h.toks[i]? = h.tk i:=id rfl
theorem bl_still (h:AHeap) (i:Nat):h.still.bl i = h.bl i:=id rfl
theorem tk_still (h:AHeap) (i:Nat):h.still.tk i = h.tk i:=id rfl
theorem bl_heap0 (i:Nat):heap0.bl i = none:=by simp [AHeap.bl,heap0]
theorem tk_heap0 (i:Nat):heap0.tk i = none:=by simp [AHeap.tk,heap0]
theorem blks_push_length (h:AHeap) (y:ABlk):(h.push y).blks.length = h.blks.length + 1:=by simp [AHeap.push]
theorem bl_push (h:AHeap) (y:ABlk) (i:Nat):(h.push y).bl i = if i = h.blks.length then some y else h.bl i:=by
 show (h.push y).blks[i]? = if i = h.blks.length then some y else h.blks[i]?
 simp only [AHeap.push,List.getElem?_append]
 split
 ·rename_i h1
  rw [if_neg (by omega)]
 ·rename_i h1
  split
  ·rename_i h2
   subst h2
   simp
  ·rename_i h2
   rw [List.getElem?_eq_none (by simp; omega),List.getElem?_eq_none (by omega)]
theorem blks_set_length (h:AHeap) (b:Nat) (y:ABlk):(h.setBlk b y).blks.length = h.blks.length:=by simp [AHeap.setBlk]
theorem bl_set (h:AHeap) (b:Nat) (y:ABlk) (i:Nat):(h.setBlk b y).bl i = if b = i then (h.bl i).map (fun _=>y) else h.bl i:=by
 show (h.setBlk b y).blks[i]? = if b = i then (h.blks[i]?).map (fun _=>y) else h.blks[i]?
 simp only [AHeap.setBlk,List.getElem?_set]
 by_cases h1:b = i
 ·subst h1
  by_cases h2:b < h.blks.length
  ·simp [h2]
  ·simp [h2]
 ·simp [h1]
theorem blk_ne {h:AHeap} {i:Nat} {b:ABlk} (hb:h.bl i = some b):¬ i = h.blks.length:=by
 have:=(List.getElem?_eq_some_iff.1 hb).1
 omega
theorem toks_push (h:AHeap) (y:ABlk):(h.push y).toks = h.toks:=id rfl
theorem toks_set (h:AHeap) (b:Nat) (y:ABlk):(h.setBlk b y).toks = h.toks:=id rfl
theorem ro_push (h:AHeap) (y:ABlk):(h.push y).ro = h.ro:=id rfl
theorem ro_set (h:AHeap) (b:Nat) (y:ABlk):(h.setBlk b y).ro = h.ro:=id rfl
theorem rot_push (h:AHeap) (y:ABlk):(h.push y).rot = h.rot:=id rfl
theorem rot_set (h:AHeap) (b:Nat) (y:ABlk):(h.setBlk b y).rot = h.rot:=id rfl
theorem blks_still (h:AHeap):h.still.blks = h.blks:=id rfl
theorem toks_still (h:AHeap):h.still.toks = h.toks:=id rfl
theorem ro_still (h:AHeap):h.still.ro = h.blks.length:=id rfl
theorem rot_still (h:AHeap):h.still.rot = h.toks.length:=id rfl
theorem blks_heap0:heap0.blks = []:=id rfl
theorem toks_heap0:heap0.toks = []:=id rfl
theorem ro_heap0:heap0.ro = 0:=id rfl
theorem rot_heap0:heap0.rot = 0:=id rfl
theorem blk_lt {h:AHeap} {i:Nat} {b:ABlk} (hb:h.bl i = some b):i < h.blks.length:=(List.getElem?_eq_some_iff.1 hb).1
theorem wrap_i64 {n:Int} (h1:-9223372036854775808 ≤ n) (h2:n ≤ 9223372036854775807):IntKind.i64.wrap n = n:=by
 rw [IntKind.wrap_i64]
 omega
def AV.isT:AV→Bool
 | .bool b=>b
 | _=>false
def AV.isB:AV→Bool
 | .bool _=>true
 | _=>false
theorem EvCode_condI (c:SOpd) (a b:SCode) (F:Fr) (h:AHeap):EvCode E (.cond c a b) F h = if (opd E F c).isB then (if (opd E F c).isT then EvCode E a F h else EvCode E b F h) else none:=by
 rw [EvCode_cond]
 split
 ·rename_i hq; rw [hq]; rfl
 ·rename_i hq; rw [hq]; rfl
 ·rename_i h1 h2
  generalize opd E F c = v at *
  cases v <;> first | rfl | skip
  rename_i b
  cases b
  ·exact absurd rfl h2
  ·exact absurd rfl h1
theorem thenDo_ite {k:Fr→AHeap→Out} {c:Prop} [Decidable c] {p q:Out}:thenDo k (if c then p else q) = if c then thenDo k p else thenDo k q:=by split <;> rfl
theorem blockEnd_ite {i:Nat} {k:List Bool} {c:Prop} [Decidable c] {p q:Out}:blockEnd i k (if c then p else q) = if c then blockEnd i k p else blockEnd i k q:=by split <;> rfl
theorem endFn_ite {sf:SFunc} {df:Nat→List AV→Option AV→AHeap→Option (Option AV × AHeap)} {c:Prop} [Decidable c] {p q:Out}:endFn sf df (if c then p else q) = if c then endFn sf df p else endFn sf df q:=by split <;> rfl
theorem closedEnd_ite {c:Prop} [Decidable c] {p q:Option (CRes × AHeap)}:closedEnd (if c then p else q) = if c then closedEnd p else closedEnd q:=by split <;> rfl
theorem readEnd_ite {h:AHeap} {c:Prop} [Decidable c] {p q:Option (CRes × AHeap)}:readEnd h (if c then p else q) = if c then readEnd h p else readEnd h q:=by split <;> rfl
theorem endRd_ite {l:Nat} {c:Prop} [Decidable c] {p q:Out}:endRd l (if c then p else q) = if c then endRd l p else endRd l q:=by split <;> rfl
theorem thenDo_n {k:Fr→AHeap→Out} {F:Fr} {h:AHeap}:thenDo k (some (.normal,F,h)) = k F h:=id rfl
theorem thenDo_x {k:Fr→AHeap→Out} {i:Nat} {F:Fr} {h:AHeap}:thenDo k (some (.exit i,F,h)) = some (.exit i,F,h):=id rfl
theorem thenDo_r {k:Fr→AHeap→Out} {F:Fr} {h:AHeap}:thenDo k (some (.ret,F,h)) = some (.ret,F,h):=id rfl
theorem thenDo_p {k:Fr→AHeap→Out} {v:AV} {F:Fr} {h:AHeap}:thenDo k (some (.panic v,F,h)) = some (.panic v,F,h):=id rfl
theorem thenDo_none {k:Fr→AHeap→Out}:thenDo k none = none:=id rfl
theorem blockEnd_n {i:Nat} {k:List Bool} {F:Fr} {h:AHeap}:blockEnd i k (some (.normal,F,h)) = some (.normal,mask k F,h):=id rfl
theorem blockEnd_x {i:Nat} {k:List Bool} {j:Nat} {F:Fr} {h:AHeap}:blockEnd i k (some (.exit j,F,h)) = if j = i then some (.normal,mask k F,h) else some (.exit j,F,h):=id rfl
theorem blockEnd_r {i:Nat} {k:List Bool} {F:Fr} {h:AHeap}:blockEnd i k (some (.ret,F,h)) = some (.ret,F,h):=id rfl
theorem blockEnd_p {i:Nat} {k:List Bool} {v:AV} {F:Fr} {h:AHeap}:blockEnd i k (some (.panic v,F,h)) = some (.panic v,F,h):=id rfl
theorem endFn_n {sf:SFunc} {df:Nat→List AV→Option AV→AHeap→Option (Option AV × AHeap)} {F:Fr} {h:AHeap}:endFn sf df (some (.normal,F,h)) = endRes sf F (runDefs df F.ds none h):=id rfl
theorem endFn_r {sf:SFunc} {df:Nat→List AV→Option AV→AHeap→Option (Option AV × AHeap)} {F:Fr} {h:AHeap}:endFn sf df (some (.ret,F,h)) = endRes sf F (runDefs df F.ds none h):=id rfl
theorem endFn_p {sf:SFunc} {df:Nat→List AV→Option AV→AHeap→Option (Option AV × AHeap)} {v:AV} {F:Fr} {h:AHeap}:endFn sf df (some (.panic v,F,h)) = endRes sf F (runDefs df F.ds (some v) h):=id rfl
theorem closedEnd_r {v:AV} {h:AHeap}:closedEnd (some (.ret v,h)) = shut 0 0 v:=id rfl
theorem readEnd_r {h:AHeap} {v:AV} {g:AHeap}:readEnd h (some (.ret v,g)) = (shut h.blks.length h.toks.length v).map fun v=>(.ret v,h):=id rfl
theorem map_ite' {α β:Type} {f:α→β} {c:Prop} [Decidable c] {p q:Option α}:Option.map f (if c then p else q) = if c then Option.map f p else Option.map f q:=by split <;> rfl
attribute [simp high] blks_bl toks_tk
attribute [simp] bl_still tk_still bl_heap0 tk_heap0 blks_push_length bl_push blks_set_length bl_set toks_push toks_set ro_push ro_set rot_push rot_set blks_still toks_still ro_still rot_still blks_heap0 toks_heap0 ro_heap0 rot_heap0
attribute [simp] EvCode_seq EvCode_region EvCode_draw EvCode_mixed evMixed Twin val0 EvCode_stored evStored StP nextP SOp.isStore val1 EvCode_ret EvCode_skip EvCode_exit EvCode_scope EvCode_block AV.isT AV.isB EvCode_condI thenDo_ite blockEnd_ite endFn_ite closedEnd_ite readEnd_ite endRd_ite evOps evOper evDraw evDraw1 wanted ev1 opd Fr.get Fr.put thenDo_n thenDo_x thenDo_r thenDo_p thenDo_none endFn_n endFn_r endFn_p blockEnd_n blockEnd_x blockEnd_r blockEnd_p closedEnd_r readEnd_r map_ite' resultsA oneOf shut shutL evBin intBin shiftA strBin evUn eqTell idx bounds peek whole AV.cells? mask maskL fillA setCells unasked sliceCells den nilTell endRes runDefs evMinmax eqCells eqCellK startD evOpsR thenS endDef EvS_seq EvS_region EvS_skip EvS_cond EvS_ret EvS_block EvS_scope SOp.isRecover
end Go.Pv
/- Short names for the evaluator's codes, as they are printed. Conditions: none; definitions. -/
namespace Go.Pv
abbrev J:AV:=.junk
abbrev X:Bool:=true
abbrev Z:Bool:=false
abbrev SOpd.t (n:Nat):SOpd:=.tmp n
abbrev SOpd.i (n:Int):SOpd:=.const (.int .i64 n)
abbrev SOpd.s (l:List UInt8):SOpd:=.const (.str l)
abbrev SOpd.f (j:Nat):SOpd:=.const (.fn (.func j) [] [])
abbrev SOpd.b (x:Bool):SOpd:=.const (.bool x)
abbrev SOper.m (d s:Nat):SOper:=⟨some d,none,.mov (.tmp s)⟩
abbrev SOper.gm (d g:Nat) (b:Bool) (s:Nat):SOper:=⟨some d,some (g,b),.mov (.tmp s)⟩
abbrev SOper.o (d:Nat) (op:SOp):SOper:=⟨some d,none,op⟩
abbrev SOper.g (d g:Nat) (b:Bool) (op:SOp):SOper:=⟨some d,some (g,b),op⟩
abbrev SOper.n (op:SOp):SOper:=⟨none,none,op⟩
end Go.Pv
