/- A part of the proof: an evaluator of the program's code, and that it is sound. Conditions: none; definitions and theorems that the statement's proof uses. -/
import Derived.Test.YteiaohbhlapklaaGreatDoorSettPv11
import Derived.ProofKit
/- The evaluator is sound: codes; all in one. Conditions: EnvOk; theorems. -/
namespace Go.Pv
open Go.RowKit
variable {T:Tie} {E:Env} {G:Ghost} {h:AHeap} {w:World} {F:Fr} {a:Act}
theorem noGoto_of {x:AExit} {r:Option Nat} {lo:Nat} {F':Fr} {h':AHeap} {e:Exit} {a':Act} {w':World} (hp:Post T E r lo G w x F' h' e a' w'):Exit.noGoto (Post T E r lo G w x F' h') e a' w':=by
 have hp0:=hp
 obtain ⟨G',X,S,hx⟩:=hp
 cases x with
 | normal=>simp only [RepX] at hx; subst hx; exact hp0
 | exit id=>simp only [RepX] at hx; subst hx; exact hp0
 | ret=>simp only [RepX] at hx; subst hx; exact hp0
 | panic v=>simp only [RepX] at hx; obtain ⟨u,rfl,_⟩:=hx; exact hp0
theorem enter_loop {r:Option Nat} {lo:Nat} (S:St T E r lo G h w F a) (hnd:F.rnd ≠ .defd) {K:Keeps} {ps:Array Tmp} {assign body:Code} {sa sb:SCode} (hca:cCode T K assign = some sa) (hcb:cCode T K body = some sb) (fn:FuncId):
  ∃ l mark w1 G1,(Instr.enterLoop fn a.tmps ps assign body r).run T.P w = .ok (l,mark) w1∧Ext G w G1 w1 ∧
   St T E r lo G1 (h.push (.loop .ready none F.t ps.toList sa sb)) w1 F { a with defers:=mark++a.defers }∧G1.mu[h.blks.length]? = some l:=by
 cases r with
 | none=>
  obtain ⟨X1,I1⟩:=S.inv.otherAlloc (.deferred (some []))
  have S1:=S.turn X1 I1
  obtain ⟨X2,I2⟩:=I1.push (.loop .ready none F.t ps.toList sa sb) (.loop { state:=.ready,pending:=none,fn,tmps:=a.tmps,params:=ps,assign,body,defers:=w.heap.size })
   fun K'=>⟨_,K,alloc_at _ _,rfl,rfl,RepL.mono K' _ _ S1.tmps,rfl,hca,hcb⟩
  have S2:=S1.turn X2 I2
  refine ⟨_,_,_,_,run_enterLoop_outer fn a.tmps ps assign body,X1.trans X2,?_,?_⟩
  ·refine { inv:=I2,tmps:=S2.tmps,ds:=?_,low:=S2.low,rnd:=S2.rnd,nom:=fun hd=>absurd hd hnd,around:=S2.around }
   simp only [List.singleton_append,RepD]
   refine .inl ⟨w.heap.size,rfl,S.low,?_,?_,?_,?_,S2.ds⟩
   ·rw [alloc_lt (by simp)]
    exact alloc_at w _
   ·intro hm
    simp only [List.mem_append,List.mem_singleton,World.size_alloc] at hm
    rcases hm with hm | hm
    ·have:=S.inv.lt _ hm; omega
    ·omega
   ·intro k n ht
    have:=(S.inv.tlt k n _ ht).1
    omega
   ·intro d' hd' he
    subst he
    have:∀ (dl:List Deferred) (ds:List (Nat × List AV)),RepD T G w lo ds dl→∀ d ∈ dl,d ≠ { target:=.collected w.heap.size,args:=#[] }:=by
     intro dl
     induction dl with
     | nil=>intro ds _ d hd; cases hd
     | cons x dl ih=>
      intro ds hD d hd
      simp only [RepD] at hD
      rcases hD with ⟨r',rfl,q2,q3,q4,q5,q6,q7⟩ | ⟨j,as',ds',l',b',q1,rfl,q3,q4⟩
      ·rcases List.mem_cons.1 hd with rfl | hd
       ·intro he
        cases he
        have:=heap_lt q3
        omega
       ·exact ih _ q7 d hd
      ·rcases List.mem_cons.1 hd with rfl | hd
       ·intro he
        cases he
       ·exact ih _ q4 d hd
    exact this _ _ S.ds _ hd' rfl
  ·rw [← S.inv.len,List.getElem?_append_right (Nat.le_refl _)]
   simp
 | some l0=>
  obtain ⟨L0,hL0⟩:=S.around l0 rfl
  obtain ⟨X2,I2⟩:=S.inv.push (.loop .ready none F.t ps.toList sa sb) (.loop { state:=.ready,pending:=none,fn,tmps:=a.tmps,params:=ps,assign,body,defers:=L0.defers })
   fun K'=>⟨_,K,alloc_at _ _,rfl,rfl,RepL.mono K' _ _ S.tmps,rfl,hca,hcb⟩
  have S2:=S.turn X2 I2
  refine ⟨_,_,_,_,run_enterLoop_inner hL0 fn a.tmps ps assign body,X2,?_,?_⟩
  ·exact { inv:=I2,tmps:=S2.tmps,ds:=S2.ds,low:=S2.low,rnd:=S2.rnd,nom:=S2.nom,around:=S2.around }
  ·rw [← S.inv.len,List.getElem?_append_right (Nat.le_refl _)]
   simp
theorem code_of (O:EnvOk T E) {n:Nat} (hcode:CodeSim T E n) (hloop:LoopSim T E (n + 1)) (hfs:FuncSim T E n) (hcall:CallSim T E (evCall E n)) (hclosed:ClosedSim T E (evClosed E n)):CodeSim T E (n + 1):=by
 intro sc F h x F' h' he K c hc r lo G w a S
 have he0:=he
 cases c with
 | skip=>
  simp only [cCode] at hc
  cases hc
  simp only [evCode] at he
  cases he
  exact wpIn_skip ⟨G,Ext.refl S.inv.vlt,S,rfl⟩
 | label l=>
  simp only [cCode] at hc
  cases hc
  simp only [evCode] at he
  cases he
  exact wpIn_label ⟨G,Ext.refl S.inv.vlt,S,rfl⟩
 | region id ops draw=>
  cases draw with
  | false=>
   simp only [cCode,Option.map_eq_some_iff] at hc
   obtain ⟨sops,h1,rfl⟩:=hc
   simp only [evCode] at he
   exact wpIn_region_list (sim_ops hcall _ h1 he S fun _ _ _ hq=>hq)
  | true=>
   simp only [cCode] at hc
   split at hc
   ·rename_i sops h1
    split at hc
    ·split at hc
     ·rename_i hd
      cases hc
      simp only [evCode,Option.map_eq_some_iff] at he
      obtain ⟨p,h2,h3⟩:=he
      cases h3
      exact sim_draw hclosed O.mix h1 hd h2 S
     ·cases hc
    ·split at hc
     ·rename_i b hb
      split at hc
      ·rename_i hd
       cases hc
       simp only [evCode] at he
       exact sim_mixed hclosed hcall O.mix h1 hb hd he S
      ·cases hc
     ·cases hc
   ·cases hc
 | seq p q=>
  simp only [cCode] at hc
  split at hc
  ·rename_i sp sq h1 h2
   cases hc
   simp only [evCode] at he
   refine wpIn_seq ?_
   cases hp:evCode E n sp F h with
   | none=>rw [hp] at he; simp [thenDo] at he
   | some o=>
    obtain ⟨x1,F1,hh1⟩:=o
    rw [hp] at he
    have hw:=hcode _ _ _ _ _ _ hp K p h1 r lo G w a S
    refine wpIn_mono hw fun e a1 w1 hP=>?_
    cases x1 with
    | normal=>
     simp only [thenDo] at he
     obtain ⟨G1,X1,S1,hx⟩:=hP
     simp only [RepX] at hx
     subst hx
     exact wpIn_mono (hcode _ _ _ _ _ _ he K q h2 r lo G1 w1 a1 S1) fun e a2 w2 hq=>Post.trans X1 hq
    | exit id=>
     simp only [thenDo] at he
     cases he
     have hP0:=hP
     obtain ⟨G1,X1,S1,hx⟩:=hP
     simp only [RepX] at hx
     subst hx
     exact hP0
    | ret=>
     simp only [thenDo] at he
     cases he
     have hP0:=hP
     obtain ⟨G1,X1,S1,hx⟩:=hP
     simp only [RepX] at hx
     subst hx
     exact hP0
    | panic v=>
     simp only [thenDo] at he
     cases he
     have hP0:=hP
     obtain ⟨G1,X1,S1,hx⟩:=hP
     simp only [RepX] at hx
     obtain ⟨u,rfl,_⟩:=hx
     exact hP0
  ·cases hc
 | cond cd p q=>
  simp only [cCode] at hc
  split at hc
  ·rename_i scd sp sq h0 h1 h2
   cases hc
   simp only [evCode] at he
   have hv:=opd_rep S.inv S.tmps h0 (E:=E)
   split at he
   ·rename_i hq
    rw [hq] at hv
    simp only [RepV] at hv
    exact wpIn_cond_true hv (hcode _ _ _ _ _ _ he K p h1 r lo G w a S)
   ·rename_i hq
    rw [hq] at hv
    simp only [RepV] at hv
    exact wpIn_cond_false hv (hcode _ _ _ _ _ _ he K q h2 r lo G w a S)
   ·cases he
  ·cases hc
 | block id p=>
  simp only [cCode,Option.map_eq_some_iff] at hc
  obtain ⟨sp,h1,rfl⟩:=hc
  simp only [evCode] at he
  refine wpIn_block ?_
  cases hp:evCode E n sp F h with
  | none=>rw [hp] at he; simp [blockEnd] at he
  | some o=>
   obtain ⟨x1,F1,hh1⟩:=o
   rw [hp] at he
   have hw:=hcode _ _ _ _ _ _ hp K p h1 r lo G w a S
   refine wpIn_mono hw fun e a1 w1 hP=>?_
   obtain ⟨G1,X1,S1,hx⟩:=hP
   cases x1 with
   | normal=>
    simp only [blockEnd] at he
    cases he
    simp only [RepX] at hx
    subst hx
    exact ⟨G1,X1,S1.mask _,rfl⟩
   | exit i=>
    simp only [RepX] at hx
    subst hx
    simp only [blockEnd] at he
    simp only [Exit.inBlock]
    split at he
    ·rename_i hi
     cases he
     rw [if_pos hi]
     exact ⟨G1,X1,S1.mask _,rfl⟩
    ·rename_i hi
     cases he
     rw [if_neg hi]
     exact ⟨G1,X1,S1,rfl⟩
   | ret=>
    simp only [blockEnd] at he
    cases he
    simp only [RepX] at hx
    subst hx
    exact ⟨G1,X1,S1,rfl⟩
   | panic v=>
    simp only [blockEnd] at he
    cases he
    simp only [RepX] at hx
    obtain ⟨u,rfl,hu⟩:=hx
    exact ⟨G1,X1,S1,u,rfl,hu⟩
 | loop p=>
  simp only [cCode,Option.map_eq_some_iff] at hc
  obtain ⟨sp,h1,rfl⟩:=hc
  exact wpIn_loop_rounds (n + 1) (hloop _ sp F h x F' h' he K p h1 r lo G w a _ S fun _ _ _ hq=>hq)
 | rangeFunc g ps p q=>
  simp only [cCode] at hc
  split at hc
  ·rename_i sg sp sq h0 h1 h2
   cases hc
   simp only [evCode] at he
   split at he
   ·rename_i j first caps hfv
    split at he
    ·cases he
    rename_i hnd
    refine wpIn_rangeFunc fun fn _=>?_
    obtain ⟨l,mark,w1,G1,hent,X1,S1,hmu⟩:=enter_loop S hnd h1 h2 fn (ps:=ps)
    cases hcl:evCall E n (.fn (.func j) first caps) [.fn (.yield h.blks.length) [] []] (h.push (.loop .ready none F.t ps.toList sp sq)) with
    | none=>rw [hcl] at he; simp [endRange] at he
    | some o=>
     obtain ⟨c1,hh2⟩:=o
     rw [hcl] at he
     have hg:=opd_rep S1.inv S1.tmps h0 (E:=E)
     rw [hfv] at hg
     have harg:RepL T G1 w1 [.fn (.yield h.blks.length) [] []] [.func (.yield l) #[] #[]]:=by
      simp only [RepL,RepV]
      exact ⟨_,_,rfl,⟨l,[],[],hmu,rfl,rfl,rfl⟩,rfl⟩
     obtain ⟨d,fi,as,q1,q2,q3,q4⟩:=hfs j first caps _ _ _ _ hcl G1 w1 _ _ S1.inv hg harg
     refine ⟨l,mark,w1,d,w1,fi,as,w1,hent,?_,fun f' hf'=>trivial,q3,fun hh=>by simp [FC,Fence.wide] at hh,?_⟩
     ·rw [resolve_value rfl]
      exact q1
     ·refine CallsIn.mono q4 fun e w3 hE=>?_
      cases c1 with
      | pan v=>simp [endRange] at he
      | ret v=>
       obtain ⟨G2,X2,I2,u,rfl,hu⟩:=hE
       have S2:=S1.turn X2 I2
       simp only [endRange] at he
       by_cases hro:hh2.ro ≤ h.blks.length
       case neg=>rw [if_neg hro] at he; cases he
       rw [if_pos hro] at he
       have hmu2:G2.mu[h.blks.length]? = some l:=by
        obtain ⟨l',hl'⟩:=X2.mu
        rw [hl',List.getElem?_append_left (List.getElem?_eq_some_iff.1 hmu).1]
        exact hmu
       have fin:∀ (st:LState) (pend:Option AJump) (t:List AV) (p2:List Nat) (a2 b2:SCode),hh2.blks[h.blks.length]? = some (.loop st pend t p2 a2 b2)→st ≠ .busy →
         ∃ w4 G4,(Instr.endLoop l).run T.P w3 = .ok (pend.map jumpC) w4∧Ext G w G4 w4∧St T E r lo G4 (hh2.setBlk h.blks.length .dead) w4 F { a with defers:=mark++a.defers }:=by
        intro st pend t p2 a2 b2 hb hst
        obtain ⟨L,K',hL,e1,e2,e3,e4,e5,e6⟩:=I2.blk _ _ l hb hmu2
        obtain ⟨X3,I3⟩:=I2.put (i:=h.blks.length) (b:=.dead) (r:=l) (.loop { L with state:=.exhausted }) (List.getElem?_eq_some_iff.1 hb).1 (fun q=>by rw [hb] at q; cases q) hro hmu2
         (fun c e fz hq=>by rw [hL] at hq; cases hq) (fun L' hq=>⟨_,rfl⟩) (fun _=>trivial)
        refine ⟨_,G2,?_,(X1.trans X2).trans X3,S2.turn X3 I3⟩
        rw [← e2]
        exact run_endLoop hL (by rw [e1]; cases st <;> simp_all [stC])
       split at he
       ·rename_i t p2 a2 b2 hb
        cases he
        obtain ⟨w4,G4,r1,r2,r3⟩:=fin _ _ _ _ _ _ hb (by simp)
        exact ⟨_,w4,r1,G4,r2,r3,rfl⟩
       ·rename_i t p2 a2 b2 hb
        cases he
        obtain ⟨w4,G4,r1,r2,r3⟩:=fin _ _ _ _ _ _ hb (by simp)
        exact ⟨_,w4,r1,wpIn_ret ⟨G4,r2,r3,rfl⟩⟩
       ·rename_i id t p2 a2 b2 hb
        cases he
        obtain ⟨w4,G4,r1,r2,r3⟩:=fin _ _ _ _ _ _ hb (by simp)
        exact ⟨_,w4,r1,wpIn_exit ⟨G4,r2,r3,rfl⟩⟩
       ·cases he
   ·cases he
  ·cases hc
 | exit id=>
  simp only [cCode] at hc
  cases hc
  simp only [evCode] at he
  cases he
  exact wpIn_exit ⟨G,Ext.refl S.inv.vlt,S.mask _,rfl⟩
 | scope p=>
  simp only [cCode,Option.map_eq_some_iff] at hc
  obtain ⟨sp,h1,rfl⟩:=hc
  simp only [evCode] at he
  exact wpIn_scope (wpIn_mono (hcode _ _ _ _ _ _ he K p h1 r lo G w a S) fun _ _ _ hq=>noGoto_of hq)
 | ret=>
  simp only [cCode] at hc
  cases hc
  simp only [evCode] at he
  cases he
  exact wpIn_ret ⟨G,Ext.refl S.inv.vlt,S.mask _,rfl⟩
 | goto l=>simp [cCode] at hc
 | refuse s=>simp [cCode] at hc
theorem loop_of {n:Nat} (hcode:CodeSim T E n) (hloop:LoopSim T E n):LoopSim T E (n + 1):=by
 intro keep sc F h x F' h' he K c hc r lo G w a Q S hQ
 simp only [evCode] at he
 rw [roundsIn_succ]
 cases hp:evCode E n sc (mask keep F) h with
 | none=>rw [hp] at he; simp [thenDo] at he
 | some o=>
  obtain ⟨x1,F1,hh1⟩:=o
  rw [hp] at he
  have hw:=hcode _ _ _ _ _ _ hp K c hc r lo G w a (S.mask keep)
  refine wpIn_mono hw fun e a1 w1 hP=>?_
  cases x1 with
  | normal=>
   simp only [thenDo] at he
   obtain ⟨G1,X1,S1,hx⟩:=hP
   simp only [RepX] at hx
   subst hx
   exact hloop keep sc F1 hh1 x F' h' he K c hc r lo G1 w1 a1 Q S1 fun e a2 w2 hq=>hQ _ _ _ (Post.trans X1 hq)
  | exit id=>
   simp only [thenDo] at he
   cases he
   have hP0:=hP
   obtain ⟨G1,X1,S1,hx⟩:=hP
   simp only [RepX] at hx
   subst hx
   exact hQ _ _ _ hP0
  | ret=>
   simp only [thenDo] at he
   cases he
   have hP0:=hP
   obtain ⟨G1,X1,S1,hx⟩:=hP
   simp only [RepX] at hx
   subst hx
   exact hQ _ _ _ hP0
  | panic v=>
   simp only [thenDo] at he
   cases he
   have hP0:=hP
   obtain ⟨G1,X1,S1,hx⟩:=hP
   simp only [RepX] at hx
   obtain ⟨u,rfl,_⟩:=hx
   exact hQ _ _ _ hP0
structure AllSim (T:Tie) (E:Env) (n:Nat):Prop where
 code:CodeSim T E n
 loop:LoopSim T E n
 fn:FnSim T E n
 round:RoundSim T E n
 shut:ShutSim T E n
 func:FuncSim T E n
 call:CallSim T E (evCall E n)
 closed:ClosedSim T E (evClosed E n)
 s:SSim T E n
 df:DefSim T E n
theorem all_sim (O:EnvOk T E):∀ n,AllSim T E n
 | 0=>{
  code:=fun sc F h x F' h' he=>by simp [evCode] at he
  loop:=fun k sc F h x F' h' he=>by simp [evCode] at he
  fn:=fun sf args h c h' he=>by simp [evFn] at he
  round:=fun li args h c h' he=>by simp [evRound] at he
  shut:=fun j x y z v he=>by simp [evClosed] at he
  func:=fun j x y z h c h' he=>by simp [evCall] at he
  call:=fun f args h c h' he=>by simp [evCall] at he
  closed:=fun f args h c h' he=>by simp [evClosed] at he
  s:=fun sc F p h x F' p' h' he=>by simp [evS] at he
  df:=fun j args p h p' h' he=>by simp [evDef] at he }
 | n + 1=>by
  have A:=all_sim O n
  have hl:=loop_of A.code A.loop
  have hs:=shut_of_closed O A.fn
  have hf:=func_of O A.fn A.shut
  exact {
   code:=code_of O A.code hl A.func A.call A.closed
   loop:=hl
   fn:=fn_of A.code A.df
   round:=round_of A.code
   shut:=hs
   func:=hf
   call:=call_of hf A.round
   closed:=closed_of hs
   s:=s_of A.code A.s
   df:=def_of O A.s }
theorem closed_calls (O:EnvOk T E) {n j:Nat} {args:List AV} {v:AV} (he:evClosed E n (.fn (.func j) [] []) args = some v) (I:Inv T E G h w) {l:List Value} (hl:RepL T G w args l):
  ∃ as,CallsIn (FC none) 0 T.P (T.fnum j) as w (Ends T E G w (.ret v) h)∧as = ⟨l⟩:=by
 have A:=all_sim O n
 have hr:RepV T G w (.fn (.func j) [] []) (.func (.func (T.fnum j)) #[] #[]):=by
  simp only [RepV,RepL]
  exact ⟨[],[],rfl,rfl,rfl⟩
 obtain ⟨d,fi,as,q1,_,q3,q4⟩:=A.shut j [] [] args v he G h w _ l I hr hl
 simp only [Deferred.ofValue,Sem.run_pure] at q1
 cases q1
 cases n with
 | zero=>simp [evClosed] at he
 | succ n=>
  simp only [evClosed] at he
  have hfb : ∃ f c, T.P.funcs[T.fnum j]? = some f ∧ f.body = some c ∧ f.name ≠ "runtime.NumGoroutine" := by
   split at he
   ·rename_i g hg
    obtain ⟨f,c,h1,h2,h3,_⟩:=O.ext j g hg
    exact ⟨f,c,h1,h2,h3⟩
   split at he
   ·cases he
   ·rename_i sf hsf
    obtain ⟨K,f,hf,hc⟩:=O.fn j sf hsf
    obtain ⟨c,hb,hn,_⟩:=cFunc_spec hc
    exact ⟨f,c,hf,hb,hn⟩
  obtain ⟨f,c,hf,hb,hn⟩:=hfb
  have:(invoke (.fn (.func (T.fnum j)) #[]) (#[]++(⟨l⟩:Array Value))).run T.P w = .ok (.enter (T.fnum j) ⟨l⟩) w:=by
   simp [invoke,callFunc,hf,hb,hn,Result.andThen]
  rw [this] at q3
  cases q3
  exact ⟨_,q4,rfl⟩
end Go.Pv
/- The evaluator without its count of steps: what it comes to with any count. Conditions: none; definitions and equations. -/
namespace Go.Pv
section mono
variable {E:Env}
theorem evOper_mono {c1 c2:AV→List AV→AHeap→Option (CRes × AHeap)} (hc:∀ f as h r,c1 f as h = some r→c2 f as h = some r) {o:SOper} {F:Fr} {h:AHeap} {r:AExit × Fr × AHeap} (he:evOper E c1 o F h = some r):evOper E c2 o F h = some r:=by
 unfold evOper at he ⊢
 split at he
 ·cases he
 ·exact he
 ·cases hop:o.op <;> rw [hop] at he <;> first | exact he | skip
  simp only at he ⊢
  split at he
  ·cases he
  ·rename_i h1; rw [hc _ _ _ _ h1]; exact he
  ·rename_i h1; rw [hc _ _ _ _ h1]; exact he
theorem evOps_mono {c1 c2:AV→List AV→AHeap→Option (CRes × AHeap)} (hc:∀ f as h r,c1 f as h = some r→c2 f as h = some r):∀ {os:List SOper} {F:Fr} {h:AHeap} {r:AExit × Fr × AHeap},evOps E c1 os F h = some r→evOps E c2 os F h = some r
 | [],F,h,r,he=>he
 | o :: os,F,h,r,he=>by
  simp only [evOps] at he ⊢
  split at he
  ·rename_i h1
   rw [evOper_mono hc h1]
   exact evOps_mono hc he
  ·rename_i hne
   rw [evOper_mono hc he]
   obtain ⟨x,F',h'⟩:=r
   cases x with
   | normal=>exact absurd he (hne _ _)
   | exit id=>rfl
   | ret=>rfl
   | panic v=>rfl
theorem evDraw1_mono {c1 c2:AV→List AV→Option AV} (hc:∀ f as r,c1 f as = some r→c2 f as = some r) {o:SOper} {F:Fr} {h:AHeap} {r:Fr × AHeap} (he:evDraw1 E c1 o F h = some r):evDraw1 E c2 o F h = some r:=by
 unfold evDraw1 at he ⊢
 split at he
 ·cases he
 ·exact he
 ·cases hop:o.op <;> rw [hop] at he <;> first | exact he | skip
  simp only [Option.map_eq_some_iff] at he ⊢
  obtain ⟨v,h1,h2⟩:=he
  exact ⟨v,hc _ _ _ h1,h2⟩
theorem evDraw_mono {c1 c2:AV→List AV→Option AV} (hc:∀ f as r,c1 f as = some r→c2 f as = some r):∀ {os:List SOper} {F:Fr} {h:AHeap} {r:Fr × AHeap},evDraw E c1 os F h = some r→evDraw E c2 os F h = some r
 | [],F,h,r,he=>he
 | o :: os,F,h,r,he=>by
  obtain ⟨F1,h1,q1,q2⟩:=evDraw_cons.1 he
  exact evDraw_cons.2 ⟨F1,h1,evDraw1_mono hc q1,evDraw_mono hc q2⟩
theorem thenDo_mono {k1 k2:Fr→AHeap→Out} (hk:∀ F h r,k1 F h = some r→k2 F h = some r) {o1 o2:Out} (ho:∀ r,o1 = some r→o2 = some r) {r:AExit × Fr × AHeap} (he:thenDo k1 o1 = some r):thenDo k2 o2 = some r:=by
 cases o1 with
 | none=>cases he
 | some p=>
  obtain ⟨x,F,h⟩:=p
  rw [ho _ rfl]
  cases x with
  | normal=>exact hk _ _ _ he
  | exit id=>exact he
  | ret=>exact he
  | panic v=>exact he
theorem map_mono {α β:Type} {f:Option α→Option β} (hf:f none = none) {o1 o2:Option α} (ho:∀ r,o1 = some r→o2 = some r) {r:β} (he:f o1 = some r):f o2 = some r:=by
 cases o1 with
 | none=>rw [hf] at he; cases he
 | some p=>rw [ho _ rfl]; exact he
theorem evMixed_mono {c1 c2:AV→List AV→Option AV} (hc:∀ f as r,c1 f as = some r→c2 f as = some r) {d1 d2:AV→List AV→AHeap→Option (CRes × AHeap)} (hd:∀ f as h r,d1 f as h = some r→d2 f as h = some r)
  {pre post:List SOper} {c:SOper} {F:Fr} {h:AHeap} {r:AExit × Fr × AHeap} (he:evMixed E c1 d1 pre c post F h = some r):evMixed E c2 d2 pre c post F h = some r:=by
 unfold evMixed at he ⊢
 split at he
 ·cases he
 ·rename_i F1 g h1
  split at he
  ·rename_i F2 h2 h3
   rw [evOper_mono hd h3]
   simp only
   split at he
   ·rename_i hT
    rw [if_pos hT]
    exact map_mono (f:=Option.map fun (p:Fr × AHeap)=>(AExit.normal,p.1,p.2)) rfl (fun r=>evDraw_mono hc) he
   ·cases he
  ·cases he
theorem beginRd_mono {l:Nat} {k1 k2:Fr→AHeap→Out} (hk:∀ F h r,k1 F h = some r→k2 F h = some r) {o1 o2:Out} (ho:∀ r,o1 = some r→o2 = some r) {r:AExit × Fr × AHeap} (he:beginRd l k1 o1 = some r):beginRd l k2 o2 = some r:=by
 cases o1 with
 | none=>cases he
 | some p=>
  rw [ho _ rfl]
  unfold beginRd at he ⊢
  split at he
  ·split at he
   ·rename_i hro
    rw [if_pos hro]
    split at he
    ·exact hk _ _ _ he
    ·cases he
   ·cases he
  ·cases he
theorem runDefs_mono {d1 d2:Nat→List AV→Option AV→AHeap→Option (Option AV × AHeap)} (hd:∀ j as p h r,d1 j as p h = some r→d2 j as p h = some r):∀ {ds:List (Nat × List AV)} {p:Option AV} {h:AHeap} {r:Option AV × AHeap},runDefs d1 ds p h = some r→runDefs d2 ds p h = some r
 | [],p,h,r,he=>he
 | d :: ds,p,h,r,he=>by
  simp only [runDefs] at he ⊢
  split at he
  ·rename_i p' h' h1
   rw [hd _ _ _ _ _ h1]
   exact runDefs_mono hd he
  ·cases he
theorem endFn_mono {sf:SFunc} {d1 d2:Nat→List AV→Option AV→AHeap→Option (Option AV × AHeap)} (hd:∀ j as p h r,d1 j as p h = some r→d2 j as p h = some r) {o1 o2:Out} (ho:∀ r,o1 = some r→o2 = some r) {r:CRes × AHeap} (he:endFn sf d1 o1 = some r):endFn sf d2 o2 = some r:=by
 cases o1 with
 | none=>cases he
 | some q=>
  rw [ho _ rfl]
  obtain ⟨x,F,h⟩:=q
  cases x with
  | exit id=>cases he
  | normal=>simp only [endFn] at he ⊢; exact map_mono (f:=endRes sf F) rfl (fun r=>runDefs_mono hd) he
  | ret=>simp only [endFn] at he ⊢; exact map_mono (f:=endRes sf F) rfl (fun r=>runDefs_mono hd) he
  | panic v=>simp only [endFn] at he ⊢; exact map_mono (f:=endRes sf F) rfl (fun r=>runDefs_mono hd) he
theorem thenS_mono {k1 k2:Fr→Option AV→AHeap→OutS} (hk:∀ F p h r,k1 F p h = some r→k2 F p h = some r) {o1 o2:OutS} (ho:∀ r,o1 = some r→o2 = some r) {r:AExit × Fr × Option AV × AHeap} (he:thenS k1 o1 = some r):thenS k2 o2 = some r:=by
 cases o1 with
 | none=>cases he
 | some q=>
  obtain ⟨x,F,p,h⟩:=q
  rw [ho _ rfl]
  cases x with
  | normal=>exact hk _ _ _ _ he
  | exit id=>exact he
  | ret=>exact he
  | panic v=>exact he
structure Mono (E:Env) (n:Nat):Prop where
 closed:∀ f as r,evClosed E n f as = some r→evClosed E (n + 1) f as = some r
 call:∀ f as h r,evCall E n f as h = some r→evCall E (n + 1) f as h = some r
 fn:∀ sf as h r,evFn E n sf as h = some r→evFn E (n + 1) sf as h = some r
 round:∀ l as h r,evRound E n l as h = some r→evRound E (n + 1) l as h = some r
 code:∀ c F h r,evCode E n c F h = some r→evCode E (n + 1) c F h = some r
 s:∀ c F p h r,evS E n c F p h = some r→evS E (n + 1) c F p h = some r
 df:∀ j as p h r,evDef E n j as p h = some r→evDef E (n + 1) j as p h = some r
theorem mono:∀ n,Mono E n
 | 0=>{
  closed:=fun f as r he=>by simp [evClosed] at he
  call:=fun f as h r he=>by simp [evCall] at he
  fn:=fun f as h r he=>by simp [evFn] at he
  round:=fun f as h r he=>by simp [evRound] at he
  code:=fun f as h r he=>by simp [evCode] at he
  s:=fun c F p h r he=>by simp [evS] at he
  df:=fun j as p h r he=>by simp [evDef] at he }
 | n + 1=>by
  have M:=mono n
  refine { closed:=?_,call:=?_,fn:=?_,round:=?_,code:=?_,s:=?_,df:=?_ }
  ·intro f as r he
   cases f <;> first | (simp [evClosed] at he; done) | skip
   rename_i g first caps
   cases g with
   | yield l=>simp [evClosed] at he
   | func j=>
    simp only [evClosed] at he ⊢
    cases hx:E.ext j with
    | some g=>rw [hx] at he; exact he
    | none=>
    rw [hx] at he
    simp only at he ⊢
    cases hj:E.fn j with
    | none=>rw [hj] at he; cases he
    | some sf=>
     rw [hj] at he
     simp only at he ⊢
     split at he
     ·rename_i hm hs
      exact map_mono rfl (fun r=>M.fn _ _ _ r) he
     ·cases he
  ·intro f as h r he
   cases f <;> first | (simp [evCall] at he; done) | skip
   rename_i g first caps
   cases g with
   | yield l=>
    cases first with
    | cons x xs=>simp [evCall] at he
    | nil=>
     cases caps with
     | cons x xs=>simp [evCall] at he
     | nil=>
      simp only [evCall] at he ⊢
      exact M.round _ _ _ _ he
   | func j=>
    simp only [evCall] at he ⊢
    cases hx:E.ext j with
    | some g=>
     rw [hx] at he
     exact map_mono (f:=Option.map fun v=>(CRes.ret v,h)) rfl (fun r=>M.closed _ _ r) he
    | none=>
    rw [hx] at he
    simp only at he ⊢
    cases hj:E.fn j with
    | none=>rw [hj] at he; cases he
    | some sf=>
     rw [hj] at he
     simp only at he ⊢
     split at he
     ·rename_i hm
      exact M.fn _ _ _ _ he
     ·rename_i hm
      exact map_mono (f:=Option.map fun v=>(CRes.ret v,h)) rfl (fun r=>M.closed _ _ r) he
     ·exact map_mono (f:=readEnd h) rfl (fun r=>M.fn _ _ _ r) he
  ·intro sf as h r he
   simp only [evFn] at he ⊢
   exact endFn_mono M.df (fun r=>M.code _ _ _ r) he
  ·intro l as h r he
   rw [evRound] at he ⊢
   split at he
   ·split at he
    ·rename_i hlen
     simp only [hlen,if_true] at he ⊢
     refine map_mono (f:=endRd l) rfl (fun r hr=>?_) he
     exact beginRd_mono (fun F h r=>M.code _ F h r) (fun r=>M.code _ _ _ r) hr
    ·cases he
   ·cases he
  ·intro c F h r he
   cases c with
   | skip=>simp only [evCode] at he ⊢; exact he
   | region d ops=>
    cases d with
    | false=>simp only [evCode] at he ⊢; exact evOps_mono (M.call) he
    | true=>
     simp only [evCode] at he ⊢
     exact map_mono (f:=Option.map fun p=>(AExit.normal,p.1,p.2)) rfl (fun r=>evDraw_mono M.closed) he
   | mixed pre c post=>simp only [evCode] at he ⊢; exact evMixed_mono M.closed M.call he
   | seq a b=>simp only [evCode] at he ⊢; exact thenDo_mono (fun F h r=>M.code _ F h r) (fun r=>M.code _ _ _ r) he
   | cond c a b=>
    simp only [evCode] at he ⊢
    split at he
    ·exact M.code _ _ _ _ he
    ·exact M.code _ _ _ _ he
    ·cases he
   | block id k c=>simp only [evCode] at he ⊢; exact map_mono rfl (fun r=>M.code _ _ _ r) he
   | loop k c=>simp only [evCode] at he ⊢; exact thenDo_mono (fun F h r=>M.code _ F h r) (fun r=>M.code _ _ _ r) he
   | rangeFunc f ps a b=>
    simp only [evCode] at he ⊢
    split at he
    ·split at he
     ·cases he
     ·rename_i hnd
      rw [if_neg hnd]
      exact map_mono rfl (fun r=>M.call _ _ _ r) he
    ·cases he
   | exit id k=>simp only [evCode] at he ⊢; exact he
   | scope c=>simp only [evCode] at he ⊢; exact M.code _ _ _ _ he
   | ret k=>simp only [evCode] at he ⊢; exact he
  ·intro c F p h r he
   have gen:∀ c,(evCode E n c F h).map (fun r=>(r.1,r.2.1,p,r.2.2)) = some r→(evCode E (n + 1) c F h).map (fun r=>(r.1,r.2.1,p,r.2.2)) = some r:=fun c hc=>
    map_mono (f:=Option.map fun (r:AExit × Fr × AHeap)=>(r.1,r.2.1,p,r.2.2)) rfl (fun r=>M.code _ _ _ r) hc
   cases c with
   | seq a b=>simp only [evS] at he ⊢; exact thenS_mono (fun F p h r=>M.s _ F p h r) (fun r=>M.s _ _ _ _ r) he
   | region d ops=>
    cases d with
    | false=>
     simp only [evS] at he ⊢
     split at he
     ·rename_i hr; rw [if_pos hr]; exact he
     ·rename_i hr; rw [if_neg hr]; exact gen _ he
    | true=>simp only [evS] at he ⊢; exact gen _ he
   | mixed pre c post=>simp only [evS] at he ⊢; exact gen _ he
   | skip=>simp only [evS] at he ⊢; exact gen _ he
   | cond c a b=>simp only [evS] at he ⊢; exact gen _ he
   | block id k c=>simp only [evS] at he ⊢; exact gen _ he
   | loop k c=>simp only [evS] at he ⊢; exact gen _ he
   | rangeFunc f ps a b=>simp only [evS] at he ⊢; exact gen _ he
   | exit id k=>simp only [evS] at he ⊢; exact gen _ he
   | scope c=>simp only [evS] at he ⊢; exact gen _ he
   | ret k=>simp only [evS] at he ⊢; exact gen _ he
  ·intro j as p h r he
   simp only [evDef] at he ⊢
   split at he
   ·exact map_mono (f:=endDef _) rfl (fun r=>M.s _ _ _ _ r) he
   ·cases he
end mono
def Grows {α:Type} (f:Nat→Option α):Prop:=∀ n r,f n = some r→f (n + 1) = some r
theorem Grows.le {α:Type} {f:Nat→Option α} (g:Grows f) {n m:Nat} (hle:n ≤ m) {r:α} (h:f n = some r):f m = some r:=by
 induction hle with
 | refl=>exact h
 | step _ ih=>exact g _ _ ih
open Classical in
noncomputable def lim {α:Type} (f:Nat→Option α):Option α:=if h:∃ r n,f n = some r then some h.choose else none
theorem lim_iff {α:Type} {f:Nat→Option α} (g:Grows f) {r:α}:lim f = some r ↔ ∃ n,f n = some r:=by
 unfold lim
 split
 ·rename_i h
  obtain ⟨n,hn⟩:=h.choose_spec
  constructor
  ·intro he
   cases he
   exact ⟨n,hn⟩
  ·rintro ⟨m,hm⟩
   have h1:=g.le (Nat.le_max_left n m) hn
   have h2:=g.le (Nat.le_max_right n m) hm
   rw [h1] at h2
   exact h2
 ·rename_i h
  constructor
  ·intro he; cases he
  ·rintro ⟨n,hn⟩
   exact absurd ⟨r,n,hn⟩ h
theorem lim_ext {α:Type} {f:Nat→Option α} (g:Grows f) {o:Option α} (h:∀ r,(∃ n,f n = some r) ↔ o = some r):lim f = o:=by
 cases ho:o with
 | none=>
  cases hl:lim f with
  | none=>rfl
  | some r=>
   have:=(h r).1 ((lim_iff g).1 hl)
   rw [ho] at this
   cases this
 | some r=>exact (lim_iff g).2 ((h r).2 ho)
variable (E:Env)
noncomputable def EvClosed (f:AV) (as:List AV):Option AV:=lim fun n=>evClosed E n f as
noncomputable def EvCall (f:AV) (as:List AV) (h:AHeap):Option (CRes × AHeap):=lim fun n=>evCall E n f as h
noncomputable def EvFn (sf:SFunc) (as:List AV) (h:AHeap):Option (CRes × AHeap):=lim fun n=>evFn E n sf as h
noncomputable def EvRound (l:Nat) (as:List AV) (h:AHeap):Option (CRes × AHeap):=lim fun n=>evRound E n l as h
noncomputable def EvCode (c:SCode) (F:Fr) (h:AHeap):Out:=lim fun n=>evCode E n c F h
noncomputable def EvS (c:SCode) (F:Fr) (p:Option AV) (h:AHeap):OutS:=lim fun n=>evS E n c F p h
noncomputable def EvDef (j:Nat) (as:List AV) (p:Option AV) (h:AHeap):Option (Option AV × AHeap):=lim fun n=>evDef E n j as p h
variable {E}
def Env.code (E:Env) (j:Nat):Option SFunc:=match E.ext j with | some _=>none | none=>E.fn j
theorem code_spec {j:Nat} {sf:SFunc} (hf:E.code j = some sf):E.ext j = none∧E.fn j = some sf:=by
 unfold Env.code at hf
 split at hf
 ·cases hf
 ·exact ⟨by assumption,hf⟩
theorem gS {c:SCode} {F:Fr} {p:Option AV} {h:AHeap}:Grows fun n=>evS E n c F p h:=fun n _ h=>(mono n).s _ _ _ _ _ h
theorem gDef {j:Nat} {as:List AV} {p:Option AV} {h:AHeap}:Grows fun n=>evDef E n j as p h:=fun n _ h=>(mono n).df _ _ _ _ _ h
theorem gClosed {f:AV} {as:List AV}:Grows fun n=>evClosed E n f as:=fun n _ h=>(mono n).closed _ _ _ h
theorem gCall {f:AV} {as:List AV} {h:AHeap}:Grows fun n=>evCall E n f as h:=fun n _ h=>(mono n).call _ _ _ _ h
theorem gFn {sf:SFunc} {as:List AV} {h:AHeap}:Grows fun n=>evFn E n sf as h:=fun n _ h=>(mono n).fn _ _ _ _ h
theorem gRound {l:Nat} {as:List AV} {h:AHeap}:Grows fun n=>evRound E n l as h:=fun n _ h=>(mono n).round _ _ _ _ h
theorem gCode {c:SCode} {F:Fr} {h:AHeap}:Grows fun n=>evCode E n c F h:=fun n _ h=>(mono n).code _ _ _ _ h
theorem EvClosed_some {f:AV} {as:List AV} {r:AV}:EvClosed E f as = some r ↔ ∃ n,evClosed E n f as = some r:=lim_iff gClosed
theorem EvCode_some {c:SCode} {F:Fr} {h:AHeap} {r:AExit × Fr × AHeap}:EvCode E c F h = some r ↔ ∃ n,evCode E n c F h = some r:=lim_iff gCode
theorem lim_step {α:Type} {f g:Nat→Option α} (gf:Grows f) (gg:Grows g) (h0:f 0 = none) (hs:∀ n,f (n + 1) = g n):lim f = lim g:=by
 refine lim_ext gf fun r=>⟨?_,fun h=>?_⟩
 ·rintro ⟨n,hn⟩
  cases n with
  | zero=>rw [h0] at hn; cases hn
  | succ n=>
   rw [hs] at hn
   exact (lim_iff gg).2 ⟨n,hn⟩
 ·obtain ⟨n,hn⟩:=(lim_iff gg).1 h
  exact ⟨n + 1,by rw [hs]; exact hn⟩
theorem lim_const {α:Type} {f:Nat→Option α} (gf:Grows f) (h0:f 0 = none) {o:Option α} (hs:∀ n,f (n + 1) = o):lim f = o:=by
 refine lim_ext gf fun r=>⟨?_,fun h=>⟨1,by rw [hs]; exact h⟩⟩
 rintro ⟨n,hn⟩
 cases n with
 | zero=>rw [h0] at hn; cases hn
 | succ n=>rw [hs] at hn; exact hn
theorem lim_map {α β:Type} {f:Nat→Option β} {g:Nat→Option α} (k:Option α→Option β) (hk:k none = none) (gf:Grows f) (gg:Grows g) (h0:f 0 = none) (hs:∀ n,f (n + 1) = k (g n)):lim f = k (lim g):=by
 refine lim_ext gf fun r=>⟨?_,fun h=>?_⟩
 ·rintro ⟨n,hn⟩
  cases n with
  | zero=>rw [h0] at hn; cases hn
  | succ n=>
   rw [hs] at hn
   cases hg:g n with
   | none=>rw [hg,hk] at hn; cases hn
   | some a=>
    rw [(lim_iff gg).2 ⟨n,hg⟩,← hg]
    exact hn
 ·cases hg:lim g with
  | none=>rw [hg,hk] at h; cases h
  | some a=>
   obtain ⟨n,hn⟩:=(lim_iff gg).1 hg
   exact ⟨n + 1,by rw [hs,hn,← hg]; exact h⟩
theorem runDefs_lim {c:Nat→Nat→List AV→Option AV→AHeap→Option (Option AV × AHeap)} (gc:∀ j as p h,Grows fun n=>c n j as p h):∀ {ds:List (Nat × List AV)} {p:Option AV} {h:AHeap} {r:Option AV × AHeap},
  runDefs (fun j as p h=>lim fun n=>c n j as p h) ds p h = some r→∃ n,runDefs (c n) ds p h = some r
 | [],p,h,r,he=>⟨0,he⟩
 | d :: ds,p,h,r,he=>by
  simp only [runDefs] at he
  split at he
  ·rename_i p' h' h1
   obtain ⟨n,hn⟩:=(lim_iff (gc _ _ _ _)).1 h1
   obtain ⟨m,hm⟩:=runDefs_lim gc he
   refine ⟨max n m,?_⟩
   simp only [runDefs]
   rw [(gc _ _ _ _).le (Nat.le_max_left n m) hn]
   exact runDefs_mono (fun j as p h r hr=>(gc j as p h).le (Nat.le_max_right n m) hr) hm
  ·cases he
theorem EvFn_eq (sf:SFunc) (as:List AV) (h:AHeap):EvFn E sf as h = endFn sf (EvDef E) (EvCode E sf.body (start sf as) h):=by
 refine lim_ext gFn fun r=>⟨?_,fun he=>?_⟩
 ·rintro ⟨n,hn⟩
  cases n with
  | zero=>simp [evFn] at hn
  | succ n=>
   simp only [evFn] at hn
   exact endFn_mono (fun j as p h r hr=>(lim_iff gDef).2 ⟨n,hr⟩) (fun r hr=>(lim_iff gCode).2 ⟨n,hr⟩) hn
 ·cases hq:EvCode E sf.body (start sf as) h with
  | none=>rw [hq] at he; simp [endFn] at he
  | some q=>
   rw [hq] at he
   obtain ⟨n,hn⟩:=EvCode_some.1 hq
   have key:∃ m,endFn sf (evDef E m) (some q) = some r:=by
    obtain ⟨x,F,h⟩:=q
    have sub:∀ p,endRes sf F (runDefs (EvDef E) F.ds p h) = some r→∃ m,endRes sf F (runDefs (evDef E m) F.ds p h) = some r:=fun p hp=>by
     cases hd:runDefs (EvDef E) F.ds p h with
     | none=>rw [hd] at hp; simp [endRes] at hp
     | some d=>
      obtain ⟨m,hm⟩:=runDefs_lim (c:=evDef E) (fun j as p h=>gDef) hd
      exact ⟨m,by rw [hm,← hd]; exact hp⟩
    cases x with
    | exit id=>simp [endFn] at he
    | normal=>simp only [endFn] at he ⊢; exact sub _ he
    | ret=>simp only [endFn] at he ⊢; exact sub _ he
    | panic v=>simp only [endFn] at he ⊢; exact sub _ he
   obtain ⟨m,hm⟩:=key
   refine ⟨max n m + 1,?_⟩
   simp only [evFn]
   exact endFn_mono (fun j as p h r hr=>gDef.le (Nat.le_max_right n m) hr) (fun r hr=>gCode.le (Nat.le_max_left n m) (hn.trans hr)) hm
theorem EvClosed_eq {j:Nat} {first caps as vs:List AV} {sf:SFunc} (hf:E.code j = some sf) (hm:sf.mode = .closed) (hs:shutL 0 0 (first++as++caps) = some vs):EvClosed E (.fn (.func j) first caps) as = closedEnd (EvFn E sf vs heap0):=by
 obtain ⟨h1,h2⟩:=code_spec hf
 exact lim_map closedEnd rfl gClosed gFn (by simp [evClosed]) fun n=>by simp only [evClosed,h1,h2,hm,hs]
theorem EvClosed_ext {j:Nat} {first caps as vs:List AV} {g:List AV→Option AV} (hx:E.ext j = some g) (hs:shutL 0 0 (first++as++caps) = some vs):EvClosed E (.fn (.func j) first caps) as = g vs:=
 lim_const gClosed (by simp [evClosed]) fun n=>by simp only [evClosed,hx,hs,Option.bind_some]
theorem EvCall_ext {j:Nat} {first caps as:List AV} {g:List AV→Option AV} (hx:E.ext j = some g) (h:AHeap):EvCall E (.fn (.func j) first caps) as h = (EvClosed E (.fn (.func j) first caps) as).map fun v=>(.ret v,h):=
 lim_map (Option.map fun v=>(CRes.ret v,h)) rfl gCall gClosed (by simp [evCall]) fun n=>by simp [evCall,hx]
theorem EvCall_closed {j:Nat} {first caps as:List AV} {sf:SFunc} (hf:E.code j = some sf) (hm:sf.mode = .closed) (h:AHeap):EvCall E (.fn (.func j) first caps) as h = (EvClosed E (.fn (.func j) first caps) as).map fun v=>(.ret v,h):=by
 obtain ⟨h1,h2⟩:=code_spec hf
 exact lim_map (Option.map fun v=>(CRes.ret v,h)) rfl gCall gClosed (by simp [evCall]) fun n=>by simp [evCall,h1,h2,hm]
theorem EvCall_open {j:Nat} {first caps as:List AV} {sf:SFunc} (hf:E.code j = some sf) (hm:sf.mode = .open_) (h:AHeap):EvCall E (.fn (.func j) first caps) as h = EvFn E sf (first++as++caps) h:=by
 obtain ⟨h1,h2⟩:=code_spec hf
 exact lim_step gCall gFn (by simp [evCall]) fun n=>by simp [evCall,h1,h2,hm]
theorem EvCall_reader {j:Nat} {first caps as:List AV} {sf:SFunc} (hf:E.code j = some sf) (hm:sf.mode = .reader) (h:AHeap):EvCall E (.fn (.func j) first caps) as h = readEnd h (EvFn E sf (first++as++caps) h.still):=by
 obtain ⟨h1,h2⟩:=code_spec hf
 exact lim_map (readEnd h) rfl gCall gFn (by simp [evCall]) fun n=>by simp [evCall,h1,h2,hm]
theorem EvDef_eq {j:Nat} {as:List AV} {p:Option AV} {h:AHeap} {sf:SFunc} (hf:E.code j = some sf):EvDef E j as p h = endDef sf (EvS E sf.body (startD sf as) p h):=by
 obtain ⟨h1,h2⟩:=code_spec hf
 exact lim_map (endDef sf) rfl gDef gS (by simp [evDef]) fun n=>by simp [evDef,h1,h2]
theorem EvS_seq (a b:SCode) (F:Fr) (p:Option AV) (h:AHeap):EvS E (.seq a b) F p h = thenS (EvS E b) (EvS E a F p h):=by
 refine lim_ext gS fun r=>⟨?_,fun he=>?_⟩
 ·rintro ⟨n,hn⟩
  cases n with
  | zero=>simp [evS] at hn
  | succ n=>
   simp only [evS] at hn
   exact thenS_mono (fun F p h r hr=>(lim_iff gS).2 ⟨n,hr⟩) (fun r hr=>(lim_iff gS).2 ⟨n,hr⟩) hn
 ·cases hg:EvS E a F p h with
  | none=>rw [hg] at he; cases he
  | some q=>
   obtain ⟨x,F1,p1,h1⟩:=q
   rw [hg] at he
   obtain ⟨n,hn⟩:=(lim_iff gS).1 hg
   cases x with
   | normal=>
    obtain ⟨m,hm⟩:=(lim_iff gS).1 he
    refine ⟨max n m + 1,?_⟩
    simp only [evS]
    rw [gS.le (Nat.le_max_left n m) hn]
    exact gS.le (Nat.le_max_right n m) hm
   | exit id=>exact ⟨n + 1,by simp only [evS]; rw [hn]; exact he⟩
   | ret=>exact ⟨n + 1,by simp only [evS]; rw [hn]; exact he⟩
   | panic v=>exact ⟨n + 1,by simp only [evS]; rw [hn]; exact he⟩
theorem s_lim {c:SCode} {F:Fr} {p:Option AV} {h:AHeap} (hs:∀ n,evS E (n + 1) c F p h = (evCode E n c F h).map fun r=>(r.1,r.2.1,p,r.2.2)):EvS E c F p h = (EvCode E c F h).map fun r=>(r.1,r.2.1,p,r.2.2):=
 lim_map (Option.map fun (r:AExit × Fr × AHeap)=>(r.1,r.2.1,p,r.2.2)) rfl gS gCode (by simp [evS]) hs
theorem EvS_region (os:List SOper) (F:Fr) (p:Option AV) (h:AHeap):EvS E (.region false os) F p h = if os.any (fun o=>o.op.isRecover) then (evOpsR E p os F h).map fun r=>(.normal,r.2.1,r.1,r.2.2) else (EvCode E (.region false os) F h).map fun r=>(r.1,r.2.1,p,r.2.2):=by
 split
 ·rename_i hr
  refine lim_const gS (by simp [evS]) fun n=>?_
  rw [evS]
  simp only [hr,if_true]
 ·rename_i hr
  refine s_lim fun n=>?_
  rw [evS]
  simp only [hr]
  rfl
theorem EvS_skip (F:Fr) (p:Option AV) (h:AHeap):EvS E .skip F p h = (EvCode E .skip F h).map fun r=>(r.1,r.2.1,p,r.2.2):=s_lim fun n=>by simp only [evS]
theorem EvS_cond (c:SOpd) (a b:SCode) (F:Fr) (p:Option AV) (h:AHeap):EvS E (.cond c a b) F p h = (EvCode E (.cond c a b) F h).map fun r=>(r.1,r.2.1,p,r.2.2):=s_lim fun n=>by simp only [evS]
theorem EvS_ret (k:List Bool) (F:Fr) (p:Option AV) (h:AHeap):EvS E (.ret k) F p h = (EvCode E (.ret k) F h).map fun r=>(r.1,r.2.1,p,r.2.2):=s_lim fun n=>by simp only [evS]
theorem EvS_block (i:Nat) (k:List Bool) (c:SCode) (F:Fr) (p:Option AV) (h:AHeap):EvS E (.block i k c) F p h = (EvCode E (.block i k c) F h).map fun r=>(r.1,r.2.1,p,r.2.2):=s_lim fun n=>by simp only [evS]
theorem EvS_scope (c:SCode) (F:Fr) (p:Option AV) (h:AHeap):EvS E (.scope c) F p h = (EvCode E (.scope c) F h).map fun r=>(r.1,r.2.1,p,r.2.2):=s_lim fun n=>by simp only [evS]
theorem EvCall_yield {l:Nat} {as:List AV} (h:AHeap):EvCall E (.fn (.yield l) [] []) as h = EvRound E l as h:=
 lim_step gCall gRound (by simp [evCall]) fun n=>by simp [evCall]
theorem EvCode_skip (F:Fr) (h:AHeap):EvCode E .skip F h = some (.normal,F,h):=lim_const gCode (by simp [evCode]) fun n=>by simp [evCode]
theorem EvCode_exit (id:Nat) (k:List Bool) (F:Fr) (h:AHeap):EvCode E (.exit id k) F h = some (.exit id,mask k F,h):=lim_const gCode (by simp [evCode]) fun n=>by simp [evCode]
theorem EvCode_ret (k:List Bool) (F:Fr) (h:AHeap):EvCode E (.ret k) F h = some (.ret,mask k F,h):=lim_const gCode (by simp [evCode]) fun n=>by simp [evCode]
theorem EvCode_scope (c:SCode) (F:Fr) (h:AHeap):EvCode E (.scope c) F h = EvCode E c F h:=lim_step gCode gCode (by simp [evCode]) fun n=>by simp [evCode]
theorem EvCode_block (id:Nat) (k:List Bool) (c:SCode) (F:Fr) (h:AHeap):EvCode E (.block id k c) F h = blockEnd id k (EvCode E c F h):=
 lim_map (blockEnd id k) rfl gCode gCode (by simp [evCode]) fun n=>by simp [evCode]
theorem EvCode_cond (c:SOpd) (a b:SCode) (F:Fr) (h:AHeap):EvCode E (.cond c a b) F h = match opd E F c with | .bool true=>EvCode E a F h | .bool false=>EvCode E b F h | _=>none:=by
 split
 ·rename_i hq
  exact lim_step gCode gCode (by simp [evCode]) fun n=>by simp [evCode,hq]
 ·rename_i hq
  exact lim_step gCode gCode (by simp [evCode]) fun n=>by simp [evCode,hq]
 ·rename_i h1 h2
  refine lim_const gCode (by simp [evCode]) fun n=>?_
  simp only [evCode]
theorem then_lim {f g:Nat→Out} {k:Nat→Fr→AHeap→Out} (gf:Grows f) (gg:Grows g) (gk:∀ F h,Grows fun n=>k n F h) (h0:f 0 = none) (hs:∀ n,f (n + 1) = thenDo (k n) (g n)):lim f = thenDo (fun F h=>lim fun n=>k n F h) (lim g):=by
 refine lim_ext gf fun r=>⟨?_,fun h=>?_⟩
 ·rintro ⟨n,hn⟩
  cases n with
  | zero=>rw [h0] at hn; cases hn
  | succ n=>
   rw [hs] at hn
   exact thenDo_mono (fun F h r hr=>(lim_iff (gk F h)).2 ⟨n,hr⟩) (fun r hr=>(lim_iff gg).2 ⟨n,hr⟩) hn
 ·cases hg:lim g with
  | none=>rw [hg] at h; cases h
  | some p=>
   obtain ⟨x,F,hh⟩:=p
   rw [hg] at h
   obtain ⟨n,hn⟩:=(lim_iff gg).1 hg
   cases x with
   | normal=>
    obtain ⟨m,hm⟩:=(lim_iff (gk F hh)).1 h
    refine ⟨max n m + 1,?_⟩
    rw [hs,gg.le (Nat.le_max_left n m) hn]
    exact (gk F hh).le (Nat.le_max_right n m) hm
   | exit id=>exact ⟨n + 1,by rw [hs,hn]; exact h⟩
   | ret=>exact ⟨n + 1,by rw [hs,hn]; exact h⟩
   | panic v=>exact ⟨n + 1,by rw [hs,hn]; exact h⟩
theorem EvCode_seq (a b:SCode) (F:Fr) (h:AHeap):EvCode E (.seq a b) F h = thenDo (EvCode E b) (EvCode E a F h):=
 then_lim gCode gCode (fun F h=>gCode) (by simp [evCode]) fun n=>by simp [evCode]
theorem EvCode_loop (k:List Bool) (c:SCode) (F:Fr) (h:AHeap):EvCode E (.loop k c) F h = thenDo (EvCode E (.loop k c)) (EvCode E c (mask k F) h):=
 then_lim gCode gCode (fun F h=>gCode) (by simp [evCode]) fun n=>by simp [evCode]
theorem EvCode_rangeFunc {f:SOpd} {ps:List Nat} {a b:SCode} {F:Fr} {h:AHeap} {j:Nat} {first caps:List AV} (hf:opd E F f = .fn (.func j) first caps) (hnd:F.rnd ≠ .defd):
  EvCode E (.rangeFunc f ps a b) F h = endRange h.blks.length F (EvCall E (.fn (.func j) first caps) [.fn (.yield h.blks.length) [] []] (h.push (.loop .ready none F.t ps a b))):=
 lim_map (endRange h.blks.length F) rfl gCode gCall (by simp [evCode]) fun n=>by simp [evCode,hf,hnd]
theorem begin_lim {l:Nat} {f g:Nat→Out} {k:Nat→Fr→AHeap→Out} (gg:Grows g) (gk:∀ F h,Grows fun n=>k n F h) (hs:∀ n,f n = beginRd l (k n) (g n)):Grows f∧lim f = beginRd l (fun F h=>lim fun n=>k n F h) (lim g):=by
 have gf:Grows f:=fun n r hn=>by
  rw [hs] at hn ⊢
  exact beginRd_mono (fun F h r hr=>gk F h n r hr) (fun r hr=>gg n r hr) hn
 refine ⟨gf,lim_ext gf fun r=>⟨?_,fun h=>?_⟩⟩
 ·rintro ⟨n,hn⟩
  rw [hs] at hn
  exact beginRd_mono (fun F h r hr=>(lim_iff (gk F h)).2 ⟨n,hr⟩) (fun r hr=>(lim_iff gg).2 ⟨n,hr⟩) hn
 ·cases hg:lim g with
  | none=>rw [hg] at h; cases h
  | some p=>
   rw [hg] at h
   obtain ⟨n,hn⟩:=(lim_iff gg).1 hg
   unfold beginRd at h
   split at h
   ·rename_i F hh heq
    cases heq
    split at h
    ·rename_i q0
     split at h
     ·rename_i q1 q2
      obtain ⟨m,hm⟩:=(lim_iff (gk _ _)).1 h
      refine ⟨max n m,?_⟩
      rw [hs,gg.le (Nat.le_max_left n m) hn]
      simp only [beginRd,q0,q1,q2,if_true]
      exact (gk _ _).le (Nat.le_max_right n m) hm
     ·cases h
    ·cases h
   ·cases h
theorem EvRound_eq {l:Nat} {as:List AV} {h:AHeap} {pend:Option AJump} {tmps:List AV} {ps:List Nat} {a b:SCode} (hl:h.blks[l]? = some (.loop .ready pend tmps ps a b)) (hlen:as.length = ps.length):
  EvRound E l as h = endRd l (beginRd l (EvCode E b) (EvCode E a { t:=setAll ps as tmps,ds:=[],rnd:=.round } h)):=by
 obtain ⟨g1,g2⟩:=begin_lim (l:=l) (f:=fun n=>beginRd l (evCode E n b) (evCode E n a { t:=setAll ps as tmps,ds:=[],rnd:=.round } h)) (g:=fun n=>evCode E n a { t:=setAll ps as tmps,ds:=[],rnd:=.round } h) (k:=fun n=>evCode E n b) gCode (fun F h=>gCode) fun n=>rfl
 have:=lim_map (f:=fun n=>evRound E n l as h) (endRd l) rfl gRound g1 (by simp [evRound]) fun n=>by simp [evRound,hl,hlen]
 rw [g2] at this
 exact this
theorem oper_lim {c:Nat→AV→List AV→AHeap→Option (CRes × AHeap)} (gc:∀ f as h,Grows fun n=>c n f as h) {o:SOper} {F:Fr} {h:AHeap} {r:AExit × Fr × AHeap}:
  (∃ n,evOper E (c n) o F h = some r) ↔ evOper E (fun f as h=>lim fun n=>c n f as h) o F h = some r:=by
 constructor
 ·rintro ⟨n,hn⟩
  exact evOper_mono (fun f as h r hr=>(lim_iff (gc f as h)).2 ⟨n,hr⟩) hn
 ·intro he
  unfold evOper at he ⊢
  split at he
  ·cases he
  ·exact ⟨0,he⟩
  ·cases hop:o.op <;> rw [hop] at he <;> first | exact ⟨0,he⟩ | skip
   simp only at he ⊢
   split at he
   ·cases he
   ·rename_i h1
    obtain ⟨n,hn⟩:=(lim_iff (gc _ _ _)).1 h1
    exact ⟨n,by rw [hn]; exact he⟩
   ·rename_i h1
    obtain ⟨n,hn⟩:=(lim_iff (gc _ _ _)).1 h1
    exact ⟨n,by rw [hn]; exact he⟩
theorem ops_lim {c:Nat→AV→List AV→AHeap→Option (CRes × AHeap)} (gc:∀ f as h,Grows fun n=>c n f as h):∀ {os:List SOper} {F:Fr} {h:AHeap} {r:AExit × Fr × AHeap},
  (∃ n,evOps E (c n) os F h = some r) ↔ evOps E (fun f as h=>lim fun n=>c n f as h) os F h = some r
 | [],F,h,r=>by simp [evOps]
 | o :: os,F,h,r=>by
  constructor
  ·rintro ⟨n,hn⟩
   exact evOps_mono (fun f as h r hr=>(lim_iff (gc f as h)).2 ⟨n,hr⟩) hn
  ·intro he
   simp only [evOps] at he
   split at he
   ·rename_i h1
    obtain ⟨n,hn⟩:=(oper_lim gc).2 h1
    obtain ⟨m,hm⟩:=(ops_lim gc (os:=os)).2 he
    refine ⟨max n m,?_⟩
    simp only [evOps]
    rw [evOper_mono (fun f as h r hr=>(gc f as h).le (Nat.le_max_left n m) hr) hn]
    exact evOps_mono (fun f as h r hr=>(gc f as h).le (Nat.le_max_right n m) hr) hm
   ·rename_i hne
    obtain ⟨n,hn⟩:=(oper_lim gc).2 he
    refine ⟨n,?_⟩
    simp only [evOps]
    rw [hn]
    obtain ⟨x,F',h'⟩:=r
    cases x with
    | normal=>exact absurd he (hne _ _)
    | exit id=>rfl
    | ret=>rfl
    | panic v=>rfl
theorem EvCode_region (os:List SOper) (F:Fr) (h:AHeap):EvCode E (.region false os) F h = evOps E (EvCall E) os F h:=by
 refine lim_ext gCode fun r=>⟨?_,fun he=>?_⟩
 ·rintro ⟨n,hn⟩
  cases n with
  | zero=>simp [evCode] at hn
  | succ n=>
   simp only [evCode] at hn
   exact (ops_lim (c:=evCall E) (fun f as h=>gCall)).1 ⟨n,hn⟩
 ·obtain ⟨n,hn⟩:=(ops_lim (c:=evCall E) (fun f as h=>gCall)).2 he
  exact ⟨n + 1,by simp only [evCode]; exact hn⟩
theorem draw1_lim {c:Nat→AV→List AV→Option AV} (gc:∀ f as,Grows fun n=>c n f as) {o:SOper} {F:Fr} {h:AHeap} {r:Fr × AHeap}:
  evDraw1 E (fun f as=>lim fun n=>c n f as) o F h = some r→∃ n,evDraw1 E (c n) o F h = some r:=by
 intro he
 unfold evDraw1 at he ⊢
 split at he
 ·cases he
 ·exact ⟨0,he⟩
 ·cases hop:o.op <;> rw [hop] at he <;> first | exact ⟨0,he⟩ | skip
  simp only [Option.map_eq_some_iff] at he ⊢
  obtain ⟨v,h1,h2⟩:=he
  obtain ⟨n,hn⟩:=(lim_iff (gc _ _)).1 h1
  exact ⟨n,v,hn,h2⟩
theorem draw_lim {c:Nat→AV→List AV→Option AV} (gc:∀ f as,Grows fun n=>c n f as):∀ {os:List SOper} {F:Fr} {h:AHeap} {r:Fr × AHeap},
  evDraw E (fun f as=>lim fun n=>c n f as) os F h = some r→∃ n,evDraw E (c n) os F h = some r
 | [],F,h,r,he=>⟨0,he⟩
 | o :: os,F,h,r,he=>by
  obtain ⟨F1,h1,q1,q2⟩:=evDraw_cons.1 he
  obtain ⟨n,hn⟩:=draw1_lim gc q1
  obtain ⟨m,hm⟩:=draw_lim gc q2
  exact ⟨max n m,evDraw_cons.2 ⟨F1,h1,evDraw1_mono (fun f as r hr=>(gc f as).le (Nat.le_max_left n m) hr) hn,evDraw_mono (fun f as r hr=>(gc f as).le (Nat.le_max_right n m) hr) hm⟩⟩
theorem EvCode_draw (os:List SOper) (F:Fr) (h:AHeap):EvCode E (.region true os) F h = (evDraw E (EvClosed E) os F h).map fun p=>(.normal,p.1,p.2):=by
 refine lim_ext gCode fun r=>⟨?_,fun he=>?_⟩
 ·rintro ⟨n,hn⟩
  cases n with
  | zero=>simp [evCode] at hn
  | succ n=>
   simp only [evCode,Option.map_eq_some_iff] at hn ⊢
   obtain ⟨p,h1,h2⟩:=hn
   exact ⟨p,evDraw_mono (fun f as r hr=>(lim_iff gClosed).2 ⟨n,hr⟩) h1,h2⟩
 ·simp only [Option.map_eq_some_iff] at he
  obtain ⟨p,h1,h2⟩:=he
  obtain ⟨n,hn⟩:=draw_lim (c:=evClosed E) (fun f as=>gClosed) h1
  exact ⟨n + 1,by simp only [evCode,hn,Option.map_some,h2]⟩
theorem EvCode_mixed (pre:List SOper) (c:SOper) (post:List SOper) (F:Fr) (h:AHeap):EvCode E (.mixed pre c post) F h = evMixed E (EvClosed E) (EvCall E) pre c post F h:=by
 refine lim_ext gCode fun r=>⟨?_,fun he=>?_⟩
 ·rintro ⟨n,hn⟩
  cases n with
  | zero=>simp [evCode] at hn
  | succ n=>
   simp only [evCode] at hn
   exact evMixed_mono (fun f as r hr=>(lim_iff gClosed).2 ⟨n,hr⟩) (fun f as h r hr=>(lim_iff gCall).2 ⟨n,hr⟩) hn
 ·unfold evMixed at he
  split at he
  ·cases he
  ·rename_i F1 g h1
   split at he
   ·rename_i F2 h2 h3
    split at he
    ·rename_i hT
     simp only [Option.map_eq_some_iff] at he
     obtain ⟨p,h4,h5⟩:=he
     obtain ⟨n,hn⟩:=draw_lim (c:=evClosed E) (fun f as=>gClosed) h4
     obtain ⟨m,hm⟩:=(oper_lim (c:=evCall E) (fun f as h=>gCall)).2 h3
     refine ⟨max n m + 1,?_⟩
     simp only [evCode]
     unfold evMixed
     rw [h1]
     simp only
     rw [evOper_mono (fun f as h r hr=>gCall.le (Nat.le_max_right n m) hr) hm]
     simp only
     rw [if_pos hT,evDraw_mono (fun f as r hr=>gClosed.le (Nat.le_max_left n m) hr) hn]
     simp only [Option.map_some,h5]
    ·cases he
   ·cases he
end Go.Pv
/- From a call's beginning to the evaluator, and back from its end. Conditions: what the program's globals hold; lemmas. -/
namespace Go.Pv
open Go.RowKit Go.ChangeShapes
variable {T:Tie} {E:Env} {W W':World}
def Ghost.met (W:World):Ghost:={ mu:=[],vals:=fun b=>match W.heap[b]? with | some (.cells c _ _)=>some c.size | _=>none,tau:=fun _ _=>none,ro:=0,rot:=0 }
theorem met_vals {b:Nat} {m:Nat} (h:(Ghost.met W).vals b = some m):∃ c e fz,W.heap[b]? = some (.cells c e fz)∧m = c.size:=by
 simp only [Ghost.met] at h
 split at h
 ·rename_i c e fz hb
  cases h
  exact ⟨c,e,fz,hb,rfl⟩
 ·cases h
theorem inv_met (hg:∀ g cs,E.glob g = some cs→∃ c e fz l,W.heap[T.gnum g]? = some (.cells c e fz)∧RepL T (Ghost.met W) W cs l∧(∀ (i:Nat) (v:Value),l[i]? = some v→c[i]? = some v)∧c.size = l.length):Inv T E (Ghost.met W) heap0 W where
 len:=rfl
 inj:=fun i j r h=>by simp [Ghost.met] at h
 lt:=fun r hr=>by cases hr
 blk:=fun i b r hb=>by simp [heap0] at hb
 vlt:=fun b m hb=>by
  obtain ⟨c,e,fz,h1,_⟩:=met_vals hb
  exact heap_lt h1
 vmu:=fun b m _ hm=>by cases hm
 vcell:=fun b m hb=>by
  obtain ⟨c,e,fz,h1,h2⟩:=met_vals hb
  exact ⟨c,e,fz,h1,by omega⟩
 tlt:=fun k n b hb=>by simp [Ghost.met] at hb
 tok:=fun k n hk=>by simp [heap0] at hk
 tmax:=fun k n b N hb=>by simp [Ghost.met] at hb
 tdisj:=fun k n b k' n' hb=>by simp [Ghost.met] at hb
 ro:=rfl
 rot:=rfl
 rle:=Nat.le_refl _
 rtle:=Nat.le_refl _
 glob:=fun g cs hgc=>by
  obtain ⟨c,e,fz,l,h1,h2,h3,h4⟩:=hg g cs hgc
  refine ⟨?_,c,e,fz,h1,by rw [h4,h2.length]⟩
  simp only [RepV]
  refine ⟨T.gnum g,0,c.size,rfl,by simp [Ghost.met,h1],?_,?_⟩
  ·rw [Nat.zero_add,← h2.length]
   rcases Nat.lt_or_ge c.size l.length with hlt | hge
   ·exfalso
    have:=h3 c.size l[c.size] (List.getElem?_eq_getElem hlt)
    simp at this
   ·exact hge
  ·refine RepM.of_list h2 fun j v hj=>?_
   simp only [World.cell?,h1,Nat.zero_add]
   exact h3 j v hj
def fieldCells {H:Type} (f:TypeId→DataW H→Option (List AV)) (P:Program):Nat→List Field→List (DataW H)→Option (List AV)
 | _,[],[]=>some []
 | off,fl :: fs,d :: ds=>
  if fl.offset = off then
   match f fl.type d,fieldCells f P (off + P.cellsOf fl.type) fs ds with
   | some a,some b=>if a.length = P.cellsOf fl.type then some (a++b) else none
   | _,_=>none
  else none
 | _,_,_=>none
def elemCells {H:Type} (f:DataW H→Option (List AV)) (n:Nat):List (DataW H)→Option (List AV)
 | []=>some []
 | d :: ds=>
  match f d,elemCells f n ds with
  | some a,some b=>if a.length = n then some (a++b) else none
  | _,_=>none
def dCells {H:Type} (P:Program):Nat→TypeId→DataW H→Option (List AV)
 | 0,_,_=>none
 | n + 1,t,d=>
  match P.underlying t,d with
  | some .bool,.lit (.bool b)=>some [.bool b]
  | some (.int k),.lit (.int k' m)=>if k' = k then some [.int k m] else none
  | some .string,.lit (.string s)=>some [.str s]
  | some (.struct fs),.agg ds=>(fieldCells (dCells P n) P 0 fs.toList ds).bind fun l=>if l.length = P.cellsOf t then some l else none
  | some (.array len e),.agg ds=>(elemCells (dCells P n e) (P.cellsOf e) ds).bind fun l=>if l.length = P.cellsOf t∧ds.length = len then some l else none
  | _,_=>none
theorem repL_cut {G:Ghost} {as bs:List AV} {l:List Value} {m k:Nat} (h1:RepL T G W as ((l.drop m).take as.length)) (h2:RepL T G W bs ((l.drop (m + as.length)).take k)) (_hk:bs.length = k):
  RepL T G W (as++bs) ((l.drop m).take (as.length + k)):=by
 have:(l.drop m).take (as.length + k) = (l.drop m).take as.length++(l.drop (m + as.length)).take k:=by
  rw [List.take_add,List.drop_drop]
 rw [this]
 exact RepL.append h1 h2
theorem fieldCells_rep {H:Type} {G:Ghost} {f:TypeId→DataW H→Option (List AV)} {tr:TypeId→List Value→Option (DataW H × List MemPlace)} {P:Program}
  (hf:∀ t cs d p l,tr t cs = some (d,p)→f t d = some l→RepL T G W l cs) (cs:List Value):
  ∀ (fs:List Field) (off:Nat) (xs:List (DataW H × List MemPlace)) (l:List AV),fs.mapM (fun fl=>tr fl.type ((cs.drop fl.offset).take (P.cellsOf fl.type))) = some xs→fieldCells f P off fs (xs.map (·.1)) = some l→RepL T G W l ((cs.drop off).take l.length)
 | [],off,xs,l,hm,hl=>by
  simp at hm
  subst hm
  simp only [List.map_nil,fieldCells] at hl
  cases hl
  simp [RepL]
 | fl :: fs,off,xs,l,hm,hl=>by
  simp only [List.mapM_cons,Option.pure_def,Option.bind_eq_bind,Option.bind_eq_some_iff] at hm
  obtain ⟨x,h1,ys,h2,h3⟩:=hm
  cases h3
  obtain ⟨d,p⟩:=x
  simp only [List.map_cons,fieldCells] at hl
  split at hl
  ·rename_i hoff
   subst hoff
   split at hl
   ·rename_i q r hq hr
    split at hl
    ·rename_i hlen
     cases hl
     have r1:=hf _ _ _ _ _ h1 hq
     rw [← hlen] at r1 hr
     have r2:=fieldCells_rep hf cs fs _ ys r h2 hr
     rw [List.length_append]
     exact repL_cut r1 r2 rfl
    ·cases hl
   ·cases hl
  ·cases hl
theorem elemCells_rep {H:Type} {G:Ghost} {f:DataW H→Option (List AV)} {tr:List Value→Option (DataW H × List MemPlace)} {n:Nat}
  (hf:∀ cs d p l,tr cs = some (d,p)→f d = some l→RepL T G W l cs) (cs:List Value):
  ∀ (k i:Nat) (xs:List (DataW H × List MemPlace)) (l:List AV),(List.range' i k).mapM (fun j=>tr ((cs.drop (j * n)).take n)) = some xs→elemCells f n (xs.map (·.1)) = some l→RepL T G W l ((cs.drop (i * n)).take l.length)
 | 0,i,xs,l,hm,hl=>by
  simp at hm
  subst hm
  simp only [List.map_nil,elemCells] at hl
  cases hl
  simp [RepL]
 | k + 1,i,xs,l,hm,hl=>by
  simp only [List.range'_succ,List.mapM_cons,Option.pure_def,Option.bind_eq_bind,Option.bind_eq_some_iff] at hm
  obtain ⟨x,h1,ys,h2,h3⟩:=hm
  cases h3
  obtain ⟨d,p⟩:=x
  simp only [List.map_cons,elemCells] at hl
  split at hl
  ·rename_i q r hq hr
   split at hl
   ·rename_i hlen
    cases hl
    have r1:=hf _ _ _ _ h1 hq
    have r2:=elemCells_rep hf cs k (i + 1) ys r h2 hr
    rw [← hlen] at r1 r2
    rw [Nat.add_mul,Nat.one_mul] at r2
    rw [List.length_append]
    subst hlen
    exact repL_cut r1 r2 rfl
   ·cases hl
  ·cases hl
theorem dCells_rep {H:Type} {enc:TypeId × Value→H} {base:Nat} {sp:Nat→Bool} {held:Bool} {G:Ghost}:∀ (n fuel:Nat) (t:TypeId) (cs:List Value) (d:DataW H) (p:List MemPlace) (l:List AV),
  DataW.trod enc T.P W base sp held fuel t cs = some (d,p)→dCells T.P n t d = some l→RepL T G W l cs
 | 0,fuel,t,cs,d,p,l,_,hl=>by simp [dCells] at hl
 | n + 1,0,t,cs,d,p,l,ht,_=>by simp [DataW.trod] at ht
 | n + 1,fuel + 1,t,cs,d,p,l,ht,hl=>by
  have ih:=dCells_rep (enc:=enc) (base:=base) (sp:=sp) (held:=held) (G:=G) n fuel
  unfold dCells at hl
  split at hl
  ·rename_i b hu
   cases hl
   obtain ⟨b',rfl,hx⟩:=DataW.trod_bool hu ht
   cases hx
   simp [RepL,RepV]
  ·rename_i k k' m hu
   split at hl
   ·rename_i hk
    subst hk
    cases hl
    obtain ⟨m',rfl,hx,_⟩:=DataW.trod_int hu ht
    cases hx
    simp [RepL,RepV]
   ·cases hl
  ·rename_i s hu
   cases hl
   obtain ⟨s',rfl,hx,_⟩:=DataW.trod_string hu ht
   cases hx
   simp [RepL,RepV]
  ·rename_i fs ds hu
   simp only [Option.bind_eq_some_iff] at hl
   obtain ⟨l',h1,h2⟩:=hl
   split at h2
   ·rename_i hlen
    cases h2
    simp only [DataW.trod,hu] at ht
    split at ht
    ·rename_i hcs
     simp only [Option.map_eq_some_iff] at ht
     obtain ⟨xs,h3,h4⟩:=ht
     cases h4
     have:=fieldCells_rep (T:=T) (W:=W) (G:=G) (tr:=fun t cs=>DataW.trod enc T.P W base sp held fuel t cs) (P:=T.P) (fun t cs d p l=>ih t cs d p l) cs _ 0 xs l h3 h1
     rw [List.drop_zero,hlen,← hcs,List.take_length] at this
     exact this
    ·cases ht
   ·cases h2
  ·rename_i len e ds hu
   simp only [Option.bind_eq_some_iff] at hl
   obtain ⟨l',h1,h2⟩:=hl
   split at h2
   ·rename_i hlen
    cases h2
    simp only [DataW.trod,hu] at ht
    split at ht
    ·rename_i hcs
     simp only [Option.map_eq_some_iff] at ht
     obtain ⟨xs,h3,h4⟩:=ht
     cases h4
     rw [List.range_eq_range'] at h3
     have:=elemCells_rep (T:=T) (W:=W) (G:=G) (tr:=fun cs=>DataW.trod enc T.P W base sp held fuel e cs) (n:=T.P.cellsOf e) (fun cs d p l=>ih e cs d p l) cs len 0 xs l h3 h1
     rw [Nat.zero_mul,List.drop_zero,hlen.1,← hcs,List.take_length] at this
     exact this
    ·cases ht
   ·cases h2
  ·cases hl
theorem laid_cells {name:String} {d:DataW Unit} {r:List (String × DataW Unit)} {ps:List MemPlace} (h:DataW.LaidVars T.P W ((name,d) :: r) ps) {g:Nat} (hg:T.P.globalNamed name = some g) {t:TypeId} (ht:(T.P.globals[g]?).map (·.type) = some t) {n:Nat} {l:List AV} (hd:dCells T.P n t d = some l) (G:Ghost):
  (∃ c e fz ls,W.heap[g]? = some (.cells c e fz)∧RepL T G W l ls∧(∀ (i:Nat) (v:Value),ls[i]? = some v→c[i]? = some v)∧c.size = ls.length)∧∃ q,DataW.LaidVars T.P W r q:=by
 simp only [DataW.LaidVars] at h
 obtain ⟨g',t',cs,fuel,p,q,h1,h2,h3,h4,h5,_⟩:=h
 rw [hg] at h1
 cases h1
 rw [ht] at h2
 cases h2
 refine ⟨?_,q,h5⟩
 simp only [World.var?,hg,Option.bind_some] at h3
 split at h3
 ·rename_i c e fz hb
  cases h3
  exact ⟨_,e,fz,_,hb,dCells_rep n fuel _ _ _ p l h4 hd,fun i v hv=>by simpa using hv,by simp⟩
 ·cases h3
theorem kept_of_ext {G':Ghost} (X:Ext (Ghost.met W) W G' W') (may:MemPlace→Prop):W.keptBut W' may:=by
 refine ⟨X.os,X.output,fun i hi=>?_⟩
 have:W'.heap[i]? = W.heap[i]?:=X.frame i hi (by simp [Ghost.met]) (by simp [Ghost.met])
 rw [this]
 split <;> simp_all
theorem calls_of {j:Nat} {args:List AV} {v:AV} (O:EnvOk T E) (he:EvClosed E (.fn (.func j) [] []) args = some v) (I:Inv T E (Ghost.met W) heap0 W) {l:List Value} (hl:RepL T (Ghost.met W) W args l):
  Calls T.P (T.fnum j) ⟨l⟩ W fun e W'=>∃ u G',e = .returned u∧RepV T G' W' v u∧Ext (Ghost.met W) W G' W':=by
 obtain ⟨n,hn⟩:=EvClosed_some.1 he
 obtain ⟨as,hc,rfl⟩:=closed_calls O hn I hl
 refine (callsIn_wide.1 hc).mono fun e W' hE=>?_
 obtain ⟨G',X,_,u,rfl,hu⟩:=hE
 exact ⟨u,G',rfl,hu,X⟩
end Go.Pv
/- Equations for working the evaluator out by rewriting. Conditions: none; lemmas. -/
namespace Go.Pv
variable {E:Env}
def AHeap.bl (h:AHeap) (i:Nat):Option ABlk:=h.blks[i]?
def AHeap.tk (h:AHeap) (i:Nat):Option Nat:=h.toks[i]?
theorem blks_bl (h:AHeap) (i:Nat):h.blks[i]? = h.bl i:=id rfl
theorem toks_tk (h:AHeap) (i:Nat):h.toks[i]? = h.tk i:=id rfl
theorem bl_still (h:AHeap) (i:Nat):h.still.bl i = h.bl i:=id rfl
theorem tk_still (h:AHeap) (i:Nat):h.still.tk i = h.tk i:=id rfl
theorem bl_heap0 (i:Nat):heap0.bl i = none:=by simp [AHeap.bl,heap0]
theorem tk_heap0 (i:Nat):heap0.tk i = none:=by simp [AHeap.tk,heap0]
theorem blks_push_length (h:AHeap) (y:ABlk):(h.push y).blks.length = h.blks.length + 1:=by simp [AHeap.push]
theorem bl_push (h:AHeap) (y:ABlk) (i:Nat):(h.push y).bl i = if i = h.blks.length then some y else h.bl i:=by
 show (h.push y).blks[i]? = if i = h.blks.length then some y else h.blks[i]?
 simp only [AHeap.push,List.getElem?_append]
 split
 ·rename_i h1
  rw [if_neg (by omega)]
 ·rename_i h1
  split
  ·rename_i h2
   subst h2
   simp
  ·rename_i h2
   rw [List.getElem?_eq_none (by simp; omega),List.getElem?_eq_none (by omega)]
theorem blks_set_length (h:AHeap) (b:Nat) (y:ABlk):(h.setBlk b y).blks.length = h.blks.length:=by simp [AHeap.setBlk]
theorem bl_set (h:AHeap) (b:Nat) (y:ABlk) (i:Nat):(h.setBlk b y).bl i = if b = i then (h.bl i).map (fun _=>y) else h.bl i:=by
 show (h.setBlk b y).blks[i]? = if b = i then (h.blks[i]?).map (fun _=>y) else h.blks[i]?
 simp only [AHeap.setBlk,List.getElem?_set]
 by_cases h1:b = i
 ·subst h1
  by_cases h2:b < h.blks.length
  ·simp [h2]
  ·simp [h2]
 ·simp [h1]
theorem blk_ne {h:AHeap} {i:Nat} {b:ABlk} (hb:h.bl i = some b):¬ i = h.blks.length:=by
 have:=(List.getElem?_eq_some_iff.1 hb).1
 omega
theorem toks_push (h:AHeap) (y:ABlk):(h.push y).toks = h.toks:=id rfl
theorem toks_set (h:AHeap) (b:Nat) (y:ABlk):(h.setBlk b y).toks = h.toks:=id rfl
theorem ro_push (h:AHeap) (y:ABlk):(h.push y).ro = h.ro:=id rfl
theorem ro_set (h:AHeap) (b:Nat) (y:ABlk):(h.setBlk b y).ro = h.ro:=id rfl
theorem rot_push (h:AHeap) (y:ABlk):(h.push y).rot = h.rot:=id rfl
theorem rot_set (h:AHeap) (b:Nat) (y:ABlk):(h.setBlk b y).rot = h.rot:=id rfl
theorem blks_still (h:AHeap):h.still.blks = h.blks:=id rfl
theorem toks_still (h:AHeap):h.still.toks = h.toks:=id rfl
theorem ro_still (h:AHeap):h.still.ro = h.blks.length:=id rfl
theorem rot_still (h:AHeap):h.still.rot = h.toks.length:=id rfl
theorem blks_heap0:heap0.blks = []:=id rfl
theorem toks_heap0:heap0.toks = []:=id rfl
theorem ro_heap0:heap0.ro = 0:=id rfl
theorem rot_heap0:heap0.rot = 0:=id rfl
theorem blk_lt {h:AHeap} {i:Nat} {b:ABlk} (hb:h.bl i = some b):i < h.blks.length:=(List.getElem?_eq_some_iff.1 hb).1
theorem wrap_i64 {n:Int} (h1:-9223372036854775808 ≤ n) (h2:n ≤ 9223372036854775807):IntKind.i64.wrap n = n:=by
 rw [IntKind.wrap_i64]
 omega
def AV.isT:AV→Bool
 | .bool b=>b
 | _=>false
def AV.isB:AV→Bool
 | .bool _=>true
 | _=>false
theorem EvCode_condI (c:SOpd) (a b:SCode) (F:Fr) (h:AHeap):EvCode E (.cond c a b) F h = if (opd E F c).isB then (if (opd E F c).isT then EvCode E a F h else EvCode E b F h) else none:=by
 rw [EvCode_cond]
 split
 ·rename_i hq; rw [hq]; rfl
 ·rename_i hq; rw [hq]; rfl
 ·rename_i h1 h2
  generalize opd E F c = v at *
  cases v <;> first | rfl | skip
  rename_i b
  cases b
  ·exact absurd rfl h2
  ·exact absurd rfl h1
theorem thenDo_ite {k:Fr→AHeap→Out} {c:Prop} [Decidable c] {p q:Out}:thenDo k (if c then p else q) = if c then thenDo k p else thenDo k q:=by split <;> rfl
theorem blockEnd_ite {i:Nat} {k:List Bool} {c:Prop} [Decidable c] {p q:Out}:blockEnd i k (if c then p else q) = if c then blockEnd i k p else blockEnd i k q:=by split <;> rfl
theorem endFn_ite {sf:SFunc} {df:Nat→List AV→Option AV→AHeap→Option (Option AV × AHeap)} {c:Prop} [Decidable c] {p q:Out}:endFn sf df (if c then p else q) = if c then endFn sf df p else endFn sf df q:=by split <;> rfl
theorem closedEnd_ite {c:Prop} [Decidable c] {p q:Option (CRes × AHeap)}:closedEnd (if c then p else q) = if c then closedEnd p else closedEnd q:=by split <;> rfl
theorem readEnd_ite {h:AHeap} {c:Prop} [Decidable c] {p q:Option (CRes × AHeap)}:readEnd h (if c then p else q) = if c then readEnd h p else readEnd h q:=by split <;> rfl
theorem endRd_ite {l:Nat} {c:Prop} [Decidable c] {p q:Out}:endRd l (if c then p else q) = if c then endRd l p else endRd l q:=by split <;> rfl
theorem thenDo_n {k:Fr→AHeap→Out} {F:Fr} {h:AHeap}:thenDo k (some (.normal,F,h)) = k F h:=id rfl
theorem thenDo_x {k:Fr→AHeap→Out} {i:Nat} {F:Fr} {h:AHeap}:thenDo k (some (.exit i,F,h)) = some (.exit i,F,h):=id rfl
theorem thenDo_r {k:Fr→AHeap→Out} {F:Fr} {h:AHeap}:thenDo k (some (.ret,F,h)) = some (.ret,F,h):=id rfl
theorem thenDo_p {k:Fr→AHeap→Out} {v:AV} {F:Fr} {h:AHeap}:thenDo k (some (.panic v,F,h)) = some (.panic v,F,h):=id rfl
theorem thenDo_none {k:Fr→AHeap→Out}:thenDo k none = none:=id rfl
theorem blockEnd_n {i:Nat} {k:List Bool} {F:Fr} {h:AHeap}:blockEnd i k (some (.normal,F,h)) = some (.normal,mask k F,h):=id rfl
theorem blockEnd_x {i:Nat} {k:List Bool} {j:Nat} {F:Fr} {h:AHeap}:blockEnd i k (some (.exit j,F,h)) = if j = i then some (.normal,mask k F,h) else some (.exit j,F,h):=id rfl
theorem blockEnd_r {i:Nat} {k:List Bool} {F:Fr} {h:AHeap}:blockEnd i k (some (.ret,F,h)) = some (.ret,F,h):=id rfl
theorem blockEnd_p {i:Nat} {k:List Bool} {v:AV} {F:Fr} {h:AHeap}:blockEnd i k (some (.panic v,F,h)) = some (.panic v,F,h):=id rfl
theorem endFn_n {sf:SFunc} {df:Nat→List AV→Option AV→AHeap→Option (Option AV × AHeap)} {F:Fr} {h:AHeap}:endFn sf df (some (.normal,F,h)) = endRes sf F (runDefs df F.ds none h):=id rfl
theorem endFn_r {sf:SFunc} {df:Nat→List AV→Option AV→AHeap→Option (Option AV × AHeap)} {F:Fr} {h:AHeap}:endFn sf df (some (.ret,F,h)) = endRes sf F (runDefs df F.ds none h):=id rfl
theorem endFn_p {sf:SFunc} {df:Nat→List AV→Option AV→AHeap→Option (Option AV × AHeap)} {v:AV} {F:Fr} {h:AHeap}:endFn sf df (some (.panic v,F,h)) = endRes sf F (runDefs df F.ds (some v) h):=id rfl
theorem closedEnd_r {v:AV} {h:AHeap}:closedEnd (some (.ret v,h)) = shut 0 0 v:=id rfl
theorem readEnd_r {h:AHeap} {v:AV} {g:AHeap}:readEnd h (some (.ret v,g)) = (shut h.blks.length h.toks.length v).map fun v=>(.ret v,h):=id rfl
theorem map_ite' {α β:Type} {f:α→β} {c:Prop} [Decidable c] {p q:Option α}:Option.map f (if c then p else q) = if c then Option.map f p else Option.map f q:=by split <;> rfl
attribute [simp high] blks_bl toks_tk
attribute [simp] bl_still tk_still bl_heap0 tk_heap0 blks_push_length bl_push blks_set_length bl_set toks_push toks_set ro_push ro_set rot_push rot_set blks_still toks_still ro_still rot_still blks_heap0 toks_heap0 ro_heap0 rot_heap0
attribute [simp] EvCode_seq EvCode_region EvCode_draw EvCode_mixed evMixed Twin val0 EvCode_ret EvCode_skip EvCode_exit EvCode_scope EvCode_block AV.isT AV.isB EvCode_condI thenDo_ite blockEnd_ite endFn_ite closedEnd_ite readEnd_ite endRd_ite evOps evOper evDraw evDraw1 wanted ev1 opd Fr.get Fr.put thenDo_n thenDo_x thenDo_r thenDo_p thenDo_none endFn_n endFn_r endFn_p blockEnd_n blockEnd_x blockEnd_r blockEnd_p closedEnd_r readEnd_r map_ite' resultsA oneOf shut shutL evBin intBin shiftA strBin evUn eqTell idx bounds peek whole AV.cells? mask maskL fillA setCells unasked sliceCells den nilTell endRes runDefs evMinmax eqCells eqCellK startD evOpsR thenS endDef EvS_seq EvS_region EvS_skip EvS_cond EvS_ret EvS_block EvS_scope SOp.isRecover
end Go.Pv
/- Short names for the evaluator's codes, as they are printed. Conditions: none; definitions. -/
namespace Go.Pv
abbrev J:AV:=.junk
abbrev X:Bool:=true
abbrev Z:Bool:=false
abbrev SOpd.t (n:Nat):SOpd:=.tmp n
abbrev SOpd.i (n:Int):SOpd:=.const (.int .i64 n)
abbrev SOpd.s (l:List UInt8):SOpd:=.const (.str l)
abbrev SOpd.f (j:Nat):SOpd:=.const (.fn (.func j) [] [])
abbrev SOpd.b (x:Bool):SOpd:=.const (.bool x)
abbrev SOper.m (d s:Nat):SOper:=⟨some d,none,.mov (.tmp s)⟩
abbrev SOper.gm (d g:Nat) (b:Bool) (s:Nat):SOper:=⟨some d,some (g,b),.mov (.tmp s)⟩
abbrev SOper.o (d:Nat) (op:SOp):SOper:=⟨some d,none,op⟩
abbrev SOper.g (d g:Nat) (b:Bool) (op:SOp):SOper:=⟨some d,some (g,b),op⟩
abbrev SOper.n (op:SOp):SOper:=⟨none,none,op⟩
end Go.Pv
