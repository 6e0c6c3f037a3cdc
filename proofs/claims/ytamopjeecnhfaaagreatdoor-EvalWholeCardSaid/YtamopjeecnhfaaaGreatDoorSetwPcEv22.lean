/- A part of the proof: functions of the program in the evaluator's code, and what they come to. Conditions: none; definitions and theorems that the statement's proof uses. -/
import Derived.Test.YtamopjeecnhfaaaGreatDoorSetwPcTree3
import Derived.Test.YtamopjeecnhfaaaGreatDoorSetwPv20
import Derived.ChangeSame
import Derived.Test.YtamopjeecnhfaaaGreatDoorSetwPcParse7
import Derived.ChangeSlices
import Derived.ChangeMaps5
import Derived.OpenShut
import Derived.Lib.SmallJoins
/- Steps appended anew; what an evaluation's parts are. Conditions: theorems. -/
namespace Go.Pv
variable {E:Env}
theorem apS_new {h:AHeap} {own:Own} {n:Nat} {cs:List AV} (hc:cs.length = n * 6) (hn:0 < n) (hb:n ≤ 1000000) (hx:cs.all AV.isCell = true):appendA 6 56 h (.vs .full 0 []) (.vs own n cs) = some (.vs (.tok h.toks.length 6) n cs,h.toks_ (h.toks++[cs.length])):=by
 have h1:n * 56 ≤ 140737488355328:=by omega
 have h2:¬ n = 0:=by omega
 have hx':=List.all_eq_true.1 hx
 simp [appendA,sliceCells,hc,h1,h2,AHeap.toks_]
 exact hx'
theorem apS_more {h:AHeap} {own:Own} {k len n:Nat} {cs xs:List AV} (hc:cs.length = len * 6) (hd:xs.length = n * 6) (hn:0 < n) (hb:len + n ≤ 1000000) (hx:xs.all AV.isCell = true) (ht:h.tk k = some cs.length) (hr:h.rot ≤ k):
  appendA 6 56 h (.vs (.tok k 6) len cs) (.vs own n xs) = some (.vs (.tok k 6) (len + n) (cs++xs),h.toks_ (h.toks.set k (cs.length + xs.length))):=by
 have h1:(len + n) * 56 ≤ 140737488355328:=by omega
 have h2:¬ n = 0:=by omega
 have hx':=List.all_eq_true.1 hx
 have ht':h.toks[k]? = some (len * 6):=by rw [← hc]; exact ht
 simp [appendA,sliceCells,hc,hd,h1,h2,AHeap.toks_,hr]
 exact ⟨hx',ht'⟩
theorem cells_S (t:List StepA):(t.flatMap StepA.cs).length = t.length * 6∧(t.flatMap StepA.cs).all AV.isCell = true:=by
 refine ⟨fm_len StepA.len t,?_⟩
 rw [List.all_eq_true]
 intro a ha
 obtain ⟨s,_,h2⟩:=List.mem_flatMap.1 ha
 exact List.all_eq_true.1 s.all a h2
theorem vs_S (t:Tr):∃ own,stepsV t.steps = .vs own t.steps.length (t.steps.flatMap StepA.cs):=by
 rcases stepsV_tree t.steps with ⟨_,h⟩ | ⟨own,h⟩
 ·have:=Tr.steps_pos t
  rw [h] at this; simp at this
 ·exact ⟨own,h⟩
theorem eval_S (H:Has 283 E) {t:Tr} (ht:TrOk t) (hf:t.fits) (hl:t.steps.length ≤ 255) (own:Own):EvClosed E (.fn (.func 283) [] []) [.vs own t.steps.length (t.steps.flatMap StepA.cs)] = some (rsW (evalT t)):=by
 rw [← evalR_tree ht (sound_steps ht hl)]
 exact eval283 H (.inr ⟨own,rfl⟩) (by omega) (tree_num ht hf)
structure RsG (r:Except Int Wo) (cs:List AV) (e:Int):Prop where
 rs:rsW r = .tuple [.agg cs,.int .i64 e]
 gt:gtW r = .agg (cs++[.int .i64 e])
 len:cs.length = 11
 all:cs.all AV.isCell = true
 take:cs.take 11 = cs
 set:setCells 0 cs z11C = cs
 eq:eqCells k11 cs cs = some true
 shut:shutL 0 0 cs = some cs
 take2:(cs++[AV.int .i64 e]).take 11 = cs
 drop2:(cs++[AV.int .i64 e]).drop 11 = [.int .i64 e]
 set2:setCells 0 (cs++[.int .i64 e]) z12C = cs++[.int .i64 e]
theorem rs_g {r:Except Int Wo} (h:∀ w,r = .ok w→WoOk w):RsG r (iC (lW r)) (eW r):=by
 have R:=rs_f h
 have l:=R.len
 exact ⟨R.rs,R.gt,R.len,R.all,R.take,R.set,R.eq,R.shut,List.take_left' l,List.drop_left' l,set_12 (by simp [l])⟩
theorem evalT_wo {t:Tr} (ht:TrOk t) (hf:t.fits):∀ w,evalT t = .ok w→WoOk w:=fun _ h=>evalT_ok (tree_num ht hf) h
end Go.Pv
/- The law EvalWhole. Conditions: the functions' codes; theorems. -/
namespace Go.Pv
variable {E:Env}
theorem toksS_get (h:AHeap) (ts:List Nat):(h.toks_ ts).toks = ts:=rfl
theorem push_toksS (h:AHeap) (x:ABlk) (ts:List Nat):(h.push x).toks_ ts = (h.toks_ ts).push x:=rfl
theorem pushS_tk (h:AHeap) (x:ABlk) (k:Nat):(h.push x).tk k = h.tk k:=rfl
set_option maxRecDepth 20000 in
set_option maxHeartbeats 8000000 in
theorem evalWhole_eq (H:Has 271 E) {va vb:AV} {La Lb:List Int} (hva:IntsV va La) (hvb:IntsV vb Lb):EvClosed E (.fn (.func 271) [] []) [va,vb] = some (.bool true):=by
 obtain ⟨va',sva,hva'⟩:=ints_shut hva
 obtain ⟨vb',svb,hvb'⟩:=ints_shut hvb
 rw [EvClosed_eq H.c271 rfl (vs:=[va',vb']) (by simp [sva,svb]),EvFn_eq]
 have haw:=awake278_eq (H.to 278)
 have hma:=made_eq (H.to 163) hva'
 have hmb:=made_eq (H.to 163) hvb'
 obtain ⟨a1,a2,a3⟩:=madeT_ok La
 obtain ⟨b1,b2,b3⟩:=madeT_ok Lb
 have pa:=Tr.steps_pos (madeT La)
 have pb:=Tr.steps_pos (madeT Lb)
 obtain ⟨oa,hoa⟩:=vs_S (madeT La)
 obtain ⟨ob,hob⟩:=vs_S (madeT Lb)
 rw [hoa] at hma
 rw [hob] at hmb
 generalize madeT La = ta at *
 generalize madeT Lb = tb at *
 clear hoa hob
 have qa:=eval_S (H.to 283) a1 a2 a3 oa
 have qb:=eval_S (H.to 283) b1 b2 b3 ob
 have w1:IntKind.i64.wrap ((ta.steps.length:Int) + (tb.steps.length:Int)) = (ta.steps.length:Int) + (tb.steps.length:Int):=w64
 obtain ⟨c1,c2⟩:=cells_S ta.steps
 obtain ⟨c3,c4⟩:=cells_S tb.steps
 by_cases hl:ta.steps.length + tb.steps.length ≤ 250
 ·have d1:decide ((250:Int) < (ta.steps.length:Int) + (tb.steps.length:Int)) = false:=decide_eq_false (by omega)
  have n1:TrOk (.bin 3 ta tb):=.bin 3 ta tb (.inl rfl) a1 b1
  have n2:TrOk (.bin 4 ta tb):=.bin 4 ta tb (.inr rfl) a1 b1
  have n3:TrOk (.inv tb):=.inv tb b1
  have n4:TrOk (.note ta [120]):=.note ta [120] a1 rfl (by decide)
  have q1:=eval_S (H.to 283) n1 ⟨a2,b2⟩ (by simp [Tr.steps]; omega) (.tok 1 6)
  have q2:=eval_S (H.to 283) n2 ⟨a2,b2⟩ (by simp [Tr.steps]; omega) (.tok 2 6)
  have q3:=eval_S (H.to 283) n3 b2 (by simp [Tr.steps]; omega) (.tok 3 6)
  have q4:=eval_S (H.to 283) n4 a2 (by simp [Tr.steps]; omega) (.tok 4 6)
  have R1:=rs_g (evalT_wo n1 ⟨a2,b2⟩)
  have R2:=rs_g (evalT_wo n2 ⟨a2,b2⟩)
  have R3:=rs_g (evalT_wo n3 b2)
  have Ra:=rs_g (evalT_wo a1 a2)
  have Rb:=rs_g (evalT_wo b1 b2)
  have woa:=evalT_wo a1 a2
  have wob:=evalT_wo b1 b2
  have e4:evalT (.note ta [120]) = evalT ta:=rfl
  rw [e4] at q4
  have s1:(Tr.bin 3 ta tb).steps.length = ta.steps.length + tb.steps.length + 1∧(Tr.bin 3 ta tb).steps.flatMap StepA.cs = ta.steps.flatMap StepA.cs++tb.steps.flatMap StepA.cs++[.int .i64 3,.int .i64 (-1),.int .i64 0,.int .i64 0,.int .i64 0,.str []]:=by simp [Tr.steps,StepA.cs,stepO]; omega
  have s2:(Tr.bin 4 ta tb).steps.length = ta.steps.length + tb.steps.length + 1∧(Tr.bin 4 ta tb).steps.flatMap StepA.cs = ta.steps.flatMap StepA.cs++tb.steps.flatMap StepA.cs++[.int .i64 4,.int .i64 (-1),.int .i64 0,.int .i64 0,.int .i64 0,.str []]:=by simp [Tr.steps,StepA.cs,stepO]; omega
  have s3:(Tr.inv tb).steps.length = tb.steps.length + 1∧(Tr.inv tb).steps.flatMap StepA.cs = tb.steps.flatMap StepA.cs++[.int .i64 5,.int .i64 (-1),.int .i64 0,.int .i64 0,.int .i64 0,.str []]:=by simp [Tr.steps,StepA.cs,stepO]
  have s4:(Tr.note ta [120]).steps.length = ta.steps.length + 1∧(Tr.note ta [120]).steps.flatMap StepA.cs = ta.steps.flatMap StepA.cs++[.int .i64 6,.int .i64 (-1),.int .i64 0,.int .i64 0,.int .i64 0,.str [120]]:=by simp [Tr.steps,StepA.cs]
  rw [s1.1,s1.2,List.append_assoc] at q1
  rw [s2.1,s2.2,List.append_assoc] at q2
  rw [s3.1,s3.2] at q3
  rw [s4.1,s4.2] at q4
  have hone:=of286 (H.to 286) (n:=1) (by decide)
  rw [ofW_1] at hone
  have Ro:=rs_g (r:=.ok oneW) (fun w hw=>by cases hw; exact oneW_ok)
  have hm:=fun (wa wb:Wo) (ha:WoOk wa) (hb:WoOk wb)=>mul284 (H.to 284) ha hb
  have hd:=fun (wa wb:Wo) (ha:WoOk wa) (hb:WoOk wb)=>div285 (H.to 285) ha hb
  have f1:evalT (.bin 3 ta tb) = match evalT ta with | .error e=>.error e | .ok a=>match evalT tb with | .error e=>.error e | .ok b=>mulW a b:=rfl
  have f2:evalT (.bin 4 ta tb) = match evalT ta with | .error e=>.error e | .ok a=>match evalT tb with | .error e=>.error e | .ok b=>divW a b:=rfl
  have f3:evalT (.inv tb) = match evalT tb with | .ok w=>divW oneW w | .error e=>.error e:=rfl
  have nea:=fun e (h:evalT ta = .error e)=>evalT_ne h
  have neb:=fun e (h:evalT tb = .error e)=>evalT_ne h
  clear n1 n2 n3 n4 e4 s1 s2 s3 s4 a1 a2 a3 b1 b2 b3
  generalize evalT (.bin 3 ta tb) = r1 at *
  generalize evalT (.bin 4 ta tb) = r2 at *
  generalize evalT (.inv tb) = r3 at *
  generalize evalT ta = ra at *
  generalize evalT tb = rb at *
  generalize ta.steps.flatMap StepA.cs = ca at *
  generalize tb.steps.flatMap StepA.cs = cb at *
  generalize ta.steps.length = ma at *
  generalize tb.steps.length = mb at *
  rw [R1.rs] at q1
  rw [R2.rs] at q2
  rw [R3.rs] at q3
  rw [Ra.rs] at q4 qa
  rw [Rb.rs] at qb
  have cab:(ca++cb).length = (ma + mb) * 6:=by rw [List.length_append]; omega
  have cab2:(ca++cb).all AV.isCell = true:=by rw [List.all_append,c2,c4]; rfl
  have u1:=fun (h:AHeap)=>apS_new (h:=h) (own:=oa) c1 pa (by omega) c2
  have u2:=fun (h:AHeap)=>apS_more (h:=h) (own:=ob) (k:=0) c1 c3 pb (by omega) c4
  have u3:=fun (h:AHeap)=>apS_new (h:=h) (own:=.tok 0 6) cab (by omega) (by omega) cab2
  have u4:=fun (h:AHeap)=>apS_new (h:=h) (own:=ob) c3 pb (by omega) c4
  have u5:=fun (h:AHeap) (xs:List AV) (hx:xs.length = 6) (hc:xs.all AV.isCell = true)=>apS_more (h:=h) (own:=.full) (k:=1) (n:=1) (xs:=xs) cab hx (by omega) (by omega) hc
  have u6:=fun (h:AHeap) (xs:List AV) (hx:xs.length = 6) (hc:xs.all AV.isCell = true)=>apS_more (h:=h) (own:=.full) (k:=2) (n:=1) (xs:=xs) cab hx (by omega) (by omega) hc
  have u7:=fun (h:AHeap) (xs:List AV) (hx:xs.length = 6) (hc:xs.all AV.isCell = true)=>apS_more (h:=h) (own:=.full) (k:=3) (n:=1) (xs:=xs) c3 hx (by omega) (by omega) hc
  have u8:=fun (h:AHeap) (xs:List AV) (hx:xs.length = 6) (hc:xs.all AV.isCell = true)=>apS_more (h:=h) (own:=.full) (k:=4) (n:=1) (xs:=xs) c1 hx (by omega) (by omega) hc
  obtain ⟨-,g1,l1,x1,t1,z1,y1,-,t1',p1',z1'⟩:=R1
  obtain ⟨-,g2,l2,x2,t2,z2,y2,-,t2',p2',z2'⟩:=R2
  obtain ⟨-,g3,l3,x3,t3,z3,y3,-,t3',p3',z3'⟩:=R3
  obtain ⟨-,ga,la,xa,ta',za,ya,sa,-,-,-⟩:=Ra
  obtain ⟨-,gb,lb,xb,tb',zb,yb,sb,-,-,-⟩:=Rb
  obtain ⟨-,go,lo,xo,to,zo,yo,so,to',po',zo'⟩:=Ro
  have F1:eW ra ≠ 0→eW r1 = eW ra∧eW r2 = eW ra:=by
   cases ra with
   | error e=>intro _; rw [f1,f2]; exact ⟨rfl,rfl⟩
   | ok w=>intro h; exact absurd rfl h
  have F2:eW ra = 0→eW rb ≠ 0→eW r1 = eW rb∧eW r2 = eW rb∧eW r3 = eW rb:=by
   cases ra with
   | error e=>intro h; exact absurd h (nea e rfl)
   | ok w=>
    intro _
    cases rb with
    | error e=>intro _; rw [f1,f2,f3]; exact ⟨rfl,rfl,rfl⟩
    | ok w=>intro h; exact absurd rfl h
  have F3:eW ra = 0→eW rb = 0→EvClosed E (.fn (.func 284) [] []) [.agg (iC (lW ra)),.agg (iC (lW rb))] = some (.agg (iC (lW r1)++[.int .i64 (eW r1)]))∧EvClosed E (.fn (.func 285) [] []) [.agg (iC (lW ra)),.agg (iC (lW rb))] = some (.agg (iC (lW r2)++[.int .i64 (eW r2)]))∧EvClosed E (.fn (.func 285) [] []) [.agg (iC (lW (.ok oneW))),.agg (iC (lW rb))] = some (.agg (iC (lW r3)++[.int .i64 (eW r3)])):=by
   cases ra with
   | error e=>intro h; exact absurd h (nea e rfl)
   | ok a=>
    cases rb with
    | error e=>intro _ h; exact absurd h (neb e rfl)
    | ok b=>
     intro _ _
     have h1:=hm a b (woa a rfl) (wob b rfl)
     have h2:=hd a b (woa a rfl) (wob b rfl)
     have h3:=hd oneW b oneW_ok (wob b rfl)
     rw [← gtW_l,← gtW_l,← gtW_l,f1,f2,f3]
     simp only [Wo.A,wL_C] at h1 h2 h3
     exact ⟨h1,h2,h3⟩
  rw [go] at hone
  clear f1 f2 f3 nea neb woa wob hm hd ga gb go g1 g2 g3
  generalize iC (lW r1) = v1 at *
  generalize iC (lW r2) = v2 at *
  generalize iC (lW r3) = v3 at *
  generalize iC (lW ra) = v4 at *
  generalize iC (lW rb) = v5 at *
  generalize iC (lW (.ok oneW)) = v6 at *
  generalize eW r1 = i1 at *
  generalize eW r2 = i2 at *
  generalize eW r3 = i3 at *
  generalize eW (.ok oneW) = i6 at *
  by_cases h4:eW ra = 0
  ·by_cases h5:eW rb = 0
   ·obtain ⟨m1,m2,m3⟩:=F3 h4 h5
    rw [h4] at q4 qa
    rw [h5] at qb
    clear F1 F2 F3
    simp (maxSteps:=1000000) [f271,start,EvCall_closed H.c278 rfl,EvCall_closed H.c163 rfl,EvCall_closed H.c283 rfl,haw,hma,hmb,w1,d1,qa,qb,q1,q2,q3,q4,u1,u2,u3,u4,u5,u6,u7,u8,toksS_get,push_toksS,pushS_tk,ro_toks,blks_toks,tk_toks,rot_toks,toks_toks,push_setk,l1,x1,t1,z1,l2,x2,t2,z2,l3,x3,t3,z3,la,xa,ta',za,ya,lb,xb,tb',zb,y1,y2,y3,t1',p1',z1',t2',p2',z2',t3',p3',z3',lo,to',hone,m1,m2,m3,EvCall_closed H.c284 rfl,EvCall_closed H.c285 rfl]
   ·obtain ⟨m1,m2,m3⟩:=F2 h4 h5
    have h5':(eW rb != 0) = true:=by simpa using h5
    rw [h4] at q4 qa
    generalize eW rb = eb at *
    subst m1
    subst m2
    subst m3
    clear F1 F2 F3
    simp (maxSteps:=1000000) [f271,start,EvCall_closed H.c278 rfl,EvCall_closed H.c163 rfl,EvCall_closed H.c283 rfl,haw,hma,hmb,w1,d1,qa,qb,q1,q2,q3,q4,u1,u2,u3,u4,u5,u6,u7,u8,toksS_get,push_toksS,pushS_tk,ro_toks,blks_toks,tk_toks,rot_toks,toks_toks,push_setk,l1,x1,z1,l2,x2,z2,l3,x3,z3,la,xa,ta',za,ya,lb,xb,zb,h5']
  ·obtain ⟨m1,m2⟩:=F1 h4
   have h4':(eW ra != 0) = true:=by simpa using h4
   generalize eW ra = ea at *
   generalize eW rb = eb at *
   subst m1
   subst m2
   clear F1 F2 F3
   simp (maxSteps:=1000000) [f271,start,EvCall_closed H.c278 rfl,EvCall_closed H.c163 rfl,EvCall_closed H.c283 rfl,haw,hma,hmb,w1,d1,qa,qb,q1,q2,q3,q4,u1,u2,u3,u4,u5,u6,u7,u8,toksS_get,push_toksS,pushS_tk,ro_toks,blks_toks,tk_toks,rot_toks,toks_toks,push_setk,l1,x1,z1,l2,x2,z2,l3,x3,z3,la,xa,ta',za,ya,lb,xb,zb,h4']
 ·have d1:decide ((250:Int) < (ta.steps.length:Int) + (tb.steps.length:Int)) = true:=decide_eq_true (by omega)
  clear a1 a2 a3 b1 b2 b3
  generalize ta.steps.flatMap StepA.cs = ca at *
  generalize tb.steps.flatMap StepA.cs = cb at *
  generalize ta.steps.length = ma at *
  generalize tb.steps.length = mb at *
  simp [f271,start,EvCall_closed H.c278 rfl,EvCall_closed H.c163 rfl,haw,hma,hmb,w1,d1]
end Go.Pv
/- A call's end as a row wants it, where its arguments hold no place. Conditions: none; lemmas. -/
namespace Go.Pv
open Go.RowKit Go.ChangeShapes Go.WideShapes
variable {H:Type} {enc:TypeId × Value→H} {P:Program}
end Go.Pv
/- Arguments: opened, and shut behind the call. Conditions: what the program's types are; lemmas. -/
namespace Go.Pv
open Go.RowKit Go.ChangeShapes Go.WideShapes Go.ChangeMaps Go.WideElems Go.Deep Go.Joins
variable {H:Type} {enc:TypeId × Value→H} {T:Tie} {W:World} {t e:TypeId} {v:Value} {d:DataW H} {ps:List MemPlace} {b0:Nat}
structure ArgOk (enc:TypeId × Value→H) (T:Tie) (W:World) (t:TypeId) (v:Value) (d:DataW H) (ps:List MemPlace) (av:AV):Prop where
 rep:RepV T (Ghost.met W) W av v
 shut:∀ W':World,W.keptBut W' (fun _=>False)→∀ sp:Nat→Bool,(∀ p ∈ ps,sp p.block = true)→DataW.Trod enc T.P W' 0 sp true t v d ps
theorem rep_ints {G:Ghost}:∀ l:List Int,RepL T G W (l.map (.int .i64)) (l.map (.int .i64))
 | []=>by simp [RepL]
 | n :: l=>by
  simp only [List.map_cons,RepL]
  exact ⟨_,_,rfl,by simp [RepV],rep_ints l⟩
theorem row_mem {a:Addr} {n:Nat} (hn:0 < n):MemPlace.cell a.block a.off ∈ MemPlace.row a n:=by
 simp only [MemPlace.row,List.mem_map,List.mem_range]
 exact ⟨0,hn,by simp⟩
theorem arg_ints (ht:T.P.underlying t = some (.slice e)) (he:T.P.underlying e = some (.int .i64)) (hc:T.P.cellsOf e = 1) (hval:Value.okWide T.P W .any b0 t v) (hd:DataW.Trod enc T.P W 0 (fun _=>true) true t v d ps):
  ∃ L av,IntsV av L∧ArgOk enc T W t v d ps av:=by
 obtain ⟨a0,l0,c0,rfl⟩:=okWide_slice ht hval
 obtain ⟨fuel,hf⟩:=hd
 rcases open_ints ht he hc hf with ⟨h1,h2⟩ | ⟨a,len,cap,zs,h1,hb,hl,hm,hz,h2,hcell,hw⟩
 ·simp only [Value.cells,List.cons.injEq,Value.slice.injEq,and_true] at h1
  obtain ⟨rfl,rfl,rfl⟩:=h1
  simp only [Prod.mk.injEq] at h2
  obtain ⟨rfl,rfl⟩:=h2
  refine ⟨[],.nils,.inl ⟨rfl,rfl⟩,by simp [RepV],fun W' _ sp _=>⟨1,?_⟩⟩
  simp [DataW.trod,Value.cells,ht]
 ·simp only [Value.cells,List.cons.injEq,Value.slice.injEq,and_true] at h1
  obtain ⟨rfl,rfl,rfl⟩:=h1
  simp only [Prod.mk.injEq] at h2
  obtain ⟨rfl,rfl⟩:=h2
  simp only [if_true] at hz
  have hlz:(zs.take l0).length = l0:=by rw [List.length_take]; omega
  refine ⟨zs.take l0,.vs .shared l0 ((zs.take l0).map (.int .i64)),.inr ⟨.shared,by rw [hlz]⟩,?_,fun W' hk sp hsp=>?_⟩
  ·simp only [RepV]
   refine ⟨_,_,rfl,hl,by simp,by simp,by simp,fun hne=>?_,fun h0=>by simp [h0]⟩
   have hpos:0 < zs.length:=by
    cases zs with
    | nil=>simp at hne
    | cons _ _=>simp
   obtain ⟨b,off,rfl,hcl⟩:=ints_at hcell hpos
   have hc0:=hcl 0 hpos
   obtain ⟨c,ce,fz,hblk⟩:∃ c ce fz,W.heap[b]? = some (.cells c ce fz):=by
    cases hq:W.heap[b]? with
    | none=>simp [World.cell?,hq] at hc0
    | some ob=>
     cases ob <;> first | (simp [World.cell?,hq] at hc0; done) | skip
     exact ⟨_,_,_,rfl⟩
   have hcell':∀ j,j < zs.length→c[off + j]? = some (.int .i64 (zs.getD j 0)):=fun j hj=>by
    have:=hcl j hj
    simp only [World.cell?,hblk] at this
    simpa using this
   refine ⟨b,off,c.size,rfl,by simp [Ghost.met,hblk],?_,?_⟩
   ·have:=hcell' (zs.length - 1) (by omega)
    have:=(Array.getElem?_eq_some_iff.1 this).1
    rw [List.length_map,hlz]
    omega
   ·refine RepM.of_list (rep_ints _) fun i x hx=>?_
    have hi:i < (zs.take l0).length:=by
     have:=(List.getElem?_eq_some_iff.1 hx).1
     simpa using this
    rw [List.getElem?_map,List.getElem?_eq_getElem hi] at hx
    simp only [Option.map_some,Option.some.injEq] at hx
    subst hx
    have hi2:i < zs.length:=by omega
    rw [hcl i hi2]
    congr 2
    rw [List.getElem_take]
    simp [List.getD,hi2]
  ·rcases Nat.eq_zero_or_pos zs.length with h0 | hpos
   ·refine ⟨0 + 2,?_⟩
    exact shut_ints 0 ht he hc (Nat.zero_le _) hl hm (by rw [h0]; split <;> omega) (fun i hi=>by omega) hw
   ·refine ⟨0 + 2,?_⟩
    have hspb:=hsp _ (row_mem (a:=a) hpos)
    obtain ⟨b,off,rfl,hcl⟩:=ints_at hcell hpos
    have hb':b < W.heap.size:=by
     have hc0:=hcl 0 hpos
     cases hq:W.heap[b]? with
     | none=>simp [World.cell?,hq] at hc0
     | some ob=>exact (Array.getElem?_eq_some_iff.1 hq).1
    exact shut_ints' 0 ht he hc (Nat.zero_le _) hl hm (by
     have:sp b = true:=hspb
     rw [this]; simpa using hz) (fun i hi=>by rw [hk.cell hb' (by simp)]; exact hcl i hi) hw
variable {P:Program}
section
variable {f0 f1 f2 f3:Field}
end
theorem post_kept {f:Func} {s:ChangeSpec} {apart fresh handsOn again:Bool} {W W':World} {args:Array Value} {v:Value} {ds gs:List (DataW H)} {before:List MemPlace}
  (hW:DataW.Whole enc P f.params.toList s.vars apart W args.toList ds gs before)
  (hres:∀ (b:Nat) (sp:Nat→Bool) (hd:Bool),DataW.TrodAll enc P W' b sp hd f.resultTypes.toList (v.resultList f.resultTypes.size) (s.fn H (ds++gs)).results [])
  (hargs:∀ sp:Nat→Bool,(∀ p ∈ before,sp p.block = true)→DataW.TrodAll enc P W' 0 sp true f.params.toList args.toList (s.fn H (ds++gs)).args before)
  (hvars:∀ sp:Nat→Bool,DataW.TrodVars enc P W' sp s.vars (s.fn H (ds++gs)).vars []) (hk:W.keptBut W' (fun _=>False))
  (hok:∀ (j:Nat) (t:TypeId) (r:Value),f.resultTypes[j]? = some t→(v.resultList f.resultTypes.size)[j]? = some r→Value.okWide P W' .any 0 t r):
  s.post enc P f apart fresh handsOn again W args v W':=by
 have hold:∀ p ∈ before,(fun b=>decide (b < W.heap.size)) p.block = true:=fun p hp=>by simpa using hW.lt p hp
 have hlt:=hW.lt
 refine ⟨ds,gs,before,[],before,[],hW,hres _ _ _,hargs _ hold,hvars _,World.keptBut_mono (fun p hp=>hp.elim) hk,fun _=>?_⟩
 obtain ⟨_,_,_,_,_,hz,hn⟩:=hW
 refine ⟨hok,_,_,([]++before)++[],⟨[]++before,[],trodAll_append (hargs _ (fun _ _=>rfl)) (hres _ _ _),hvars _,rfl,?_,?_⟩,?_⟩
 ·intro b off hp
  have hp':MemPlace.cell b off ∈ before:=by simpa using hp
  have h1:=hz b off hp'
  have h2:=hk.2.2 b (hlt _ hp')
  simp only [World.frozen?] at h1 ⊢
  cases hq:W.heap[b]? with
  | none=>
   rw [hq] at h2
   cases hq':W'.heap[b]? with
   | none=>rfl
   | some o=>rw [hq'] at h2; simp at h2
  | some o=>
   rw [hq] at h1 h2
   cases hq':W'.heap[b]? with
   | none=>rfl
   | some o'=>
    rw [hq'] at h2
    cases o <;> cases o' <;> simp_all
 ·intro ha
  simpa using hn ha
 ·intro p hp _
  simpa using hp
end Go.Pv
