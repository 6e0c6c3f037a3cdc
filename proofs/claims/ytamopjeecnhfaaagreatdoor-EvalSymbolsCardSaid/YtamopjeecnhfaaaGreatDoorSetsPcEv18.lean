/- A part of the proof: functions of the program in the evaluator's code, and what they come to. Conditions: none; definitions and theorems that the statement's proof uses. -/
import Derived.Test.YtamopjeecnhfaaaGreatDoorSetsPcEv10
import Derived.Test.YtamopjeecnhfaaaGreatDoorSetsPv20
import Derived.ChangeSame
import Derived.Test.YtamopjeecnhfaaaGreatDoorSetsPcParse7
import Derived.ChangeSlices
import Derived.ChangeMaps5
import Derived.OpenShut
import Derived.Lib.SmallJoins
/- The law EvalSymbols. Conditions: the functions' codes; theorems. -/
namespace Go.Pv
variable {E:Env}
set_option maxRecDepth 20000 in
theorem atom281_eq (H:Has 281 E) (i:Int):EvClosed E (.fn (.func 281) [] []) [.int .i64 i] = some (.bool true):=by
 rw [EvClosed_eq H.c281 rfl (vs:=[.int .i64 i]) (by simp),EvFn_eq]
 have q1:=atom288 (H.to 288) i
 have q2:=atom290 (H.to 290) i
 have R:=rs_f (r:=atomR i) (fun w hw=>by
  unfold atomR at hw
  split at hw
  ·rename_i hc
   cases hw
   exact (worth_ok hc.1 hc.2).1
  ·cases hw)
 rw [R.rs] at q1
 rw [R.gt] at q2
 have r1:=R.len
 have r2:=R.all
 have r3:=R.take
 have r4:=R.set
 have r5:=R.eq
 have s12:setCells 0 (iC (lW (atomR i))++[AV.int .i64 (eW (atomR i))]) z12C = iC (lW (atomR i))++[AV.int .i64 (eW (atomR i))]:=set_12 (by rw [List.length_append,r1]; rfl)
 have t11:(iC (lW (atomR i))++[AV.int .i64 (eW (atomR i))]).take 11 = iC (lW (atomR i)):=List.take_left' r1
 have d11:((iC (lW (atomR i))++[AV.int .i64 (eW (atomR i))]).drop 11).take 1 = [AV.int .i64 (eW (atomR i))]:=by rw [List.drop_left' r1]; rfl
 have l12:(iC (lW (atomR i))++[AV.int .i64 (eW (atomR i))]).length = 12:=by rw [List.length_append,r1]; rfl
 have a12:(iC (lW (atomR i))++[AV.int .i64 (eW (atomR i))]).all AV.isCell = true:=by rw [List.all_append,r2]; rfl
 clear R
 generalize eW (atomR i) = e at *
 generalize iC (lW (atomR i)) = cs at *
 generalize cs++[AV.int .i64 e] = ds at *
 simp [f281,start,EvCall_closed H.c288 rfl,EvCall_closed H.c290 rfl,q1,q2,r1,r2,r3,r4,r5,s12,t11,d11,l12,a12,push_setk]
set_option maxRecDepth 20000 in
theorem symbol282_eq (H:Has 282 E) (x:StepA) (hx:x.text.length ≤ 9223372036854775807):EvClosed E (.fn (.func 282) [] []) [.agg x.cs] = some (.bool true):=by
 rw [EvClosed_eq H.c282 rfl (vs:=[.agg x.cs]) (by simp [StepA.shut]),EvFn_eq]
 have q1:=symbol287 (H.to 287) x
 have q2:=symbol291_of (H.to 291) x (may182_genL (H.to 182) x hx)
 have R:=rs_f (r:=symR x) (fun w hw=>symR_wo hw)
 rw [R.rs] at q1
 rw [R.gt] at q2
 have r1:=R.len
 have r2:=R.all
 have r3:=R.take
 have r4:=R.set
 have r5:=R.eq
 have s12:setCells 0 (iC (lW (symR x))++[AV.int .i64 (eW (symR x))]) z12C = iC (lW (symR x))++[AV.int .i64 (eW (symR x))]:=set_12 (by rw [List.length_append,r1]; rfl)
 have t11:(iC (lW (symR x))++[AV.int .i64 (eW (symR x))]).take 11 = iC (lW (symR x)):=List.take_left' r1
 have d11:((iC (lW (symR x))++[AV.int .i64 (eW (symR x))]).drop 11).take 1 = [AV.int .i64 (eW (symR x))]:=by rw [List.drop_left' r1]; rfl
 have l12:(iC (lW (symR x))++[AV.int .i64 (eW (symR x))]).length = 12:=by rw [List.length_append,r1]; rfl
 have a12:(iC (lW (symR x))++[AV.int .i64 (eW (symR x))]).all AV.isCell = true:=by rw [List.all_append,r2]; rfl
 have lx:=StepA.len x
 have ax:=StepA.all x
 have tx:x.cs.take 6 = x.cs:=List.take_of_length_le (by omega)
 clear R
 generalize eW (symR x) = e at *
 generalize iC (lW (symR x)) = cs at *
 generalize cs++[AV.int .i64 e] = ds at *
 generalize x.cs = X at *
 simp [f282,start,EvCall_closed H.c287 rfl,EvCall_closed H.c291 rfl,q1,q2,r1,r2,r3,r4,r5,s12,t11,d11,l12,a12,lx,tx,push_setk]
set_option maxRecDepth 20000 in
set_option maxHeartbeats 1000000 in
theorem evalSymbols_eq (H:Has 270 E) (at_:Int) (o p a n m:Int) (t:List UInt8) (ht:t.length ≤ 9223372036854775807) (q0 q1 q2:Int):EvClosed E (.fn (.func 270) [] []) [.int .i64 at_,.agg [.int .i64 o,.int .i64 p,.int .i64 a,.int .i64 n,.int .i64 m,.str t],.agg [.int .i64 q0,.int .i64 q1,.int .i64 q2]] = some (.bool true):=by
 rw [EvClosed_eq H.c270 rfl (vs:=[.int .i64 at_,.agg [.int .i64 o,.int .i64 p,.int .i64 a,.int .i64 n,.int .i64 m,.str t],.agg [.int .i64 q0,.int .i64 q1,.int .i64 q2]]) (by simp),EvFn_eq]
 have haw:=awake278_eq (H.to 278)
 have h1:=rest279_eq (H.to 279) (x:=q0) (m:=21) (by omega) (by omega)
 have h2:=rest279_eq (H.to 279) (x:=q1) (m:=48) (by omega) (by omega)
 have h3:=rest279_eq (H.to 279) (x:=at_) (m:=48) (by omega) (by omega)
 have w1:IntKind.i64.wrap (q0 % 21 - 1) = q0 % 21 - 1:=w64
 have z0:=symbol282_eq (H.to 282) ⟨o,p,a,n,m,t⟩ ht
 have z1:=symbol282_eq (H.to 282) ⟨2,q0 % 21 - 1,q1 % 48,q2.tmod 100,0,[]⟩ (by simp)
 have z2:=symbol282_eq (H.to 282) ⟨2,-1,q1 % 48,1,0,[]⟩ (by simp)
 have y1:=atom281_eq (H.to 281) at_
 have y2:=atom281_eq (H.to 281) (at_ % 48)
 simp only [StepA.cs] at z0 z1 z2
 simp [f270,start,EvCall_closed H.c278 rfl,EvCall_closed H.c279 rfl,EvCall_closed H.c281 rfl,EvCall_closed H.c282 rfl,haw,h1,h2,h3,w1,z0,z1,z2,y1,y2,push_setk]
end Go.Pv
/- A call's end as a row wants it, where its arguments hold no place. Conditions: none; lemmas. -/
namespace Go.Pv
open Go.RowKit Go.ChangeShapes Go.WideShapes
variable {H:Type} {enc:TypeId × Value→H} {P:Program}
end Go.Pv
/- Arguments: opened, and shut behind the call. Conditions: what the program's types are; lemmas. -/
namespace Go.Pv
open Go.RowKit Go.ChangeShapes Go.WideShapes Go.ChangeMaps Go.WideElems Go.Deep Go.Joins
variable {H:Type} {enc:TypeId × Value→H} {T:Tie} {W:World} {t e:TypeId} {v:Value} {d:DataW H} {ps:List MemPlace} {b0:Nat}
structure ArgOk (enc:TypeId × Value→H) (T:Tie) (W:World) (t:TypeId) (v:Value) (d:DataW H) (ps:List MemPlace) (av:AV):Prop where
 rep:RepV T (Ghost.met W) W av v
 shut:∀ W':World,W.keptBut W' (fun _=>False)→∀ sp:Nat→Bool,(∀ p ∈ ps,sp p.block = true)→DataW.Trod enc T.P W' 0 sp true t v d ps
theorem arg_int (ht:T.P.underlying t = some (.int .i64)) (hval:Value.okWide T.P W .any b0 t v) (hd:DataW.Trod enc T.P W 0 (fun _=>true) true t v d ps):∃ n,ArgOk enc T W t v d ps (.int .i64 n):=by
 obtain ⟨n,rfl,rfl,rfl,w⟩:=open_int ht hval hd
 exact ⟨n,⟨by simp [RepV],fun W' _ sp _=>shut_int ht w⟩⟩
def Flat (enc:TypeId × Value→H) (P:Program) (t:TypeId):Prop:=∀ (W W':World) (sp sp':Nat→Bool) (n:Nat) (cs:List Value),DataW.trod enc P W 0 sp true n t cs = DataW.trod enc P W' 0 sp' true n t cs
variable {P:Program}
theorem flat_int {k:IntKind} (ht:P.underlying t = some (.int k)):Flat enc P t:=by
 intro W W' sp sp' n cs
 cases n with
 | zero=>rfl
 | succ n=>
  have one:∀ (W W':World) (sp sp':Nat→Bool) x,DataW.trod enc P W 0 sp true (n + 1) t cs = some x→DataW.trod enc P W' 0 sp' true (n + 1) t cs = some x:=by
   intro W W' sp sp' x h
   obtain ⟨m,rfl,rfl,hw⟩:=DataW.trod_int ht h
   exact trod_int_mk n ht hw
  apply Option.ext
  intro x
  exact ⟨one _ _ _ _ x,one _ _ _ _ x⟩
theorem flat_string (ht:P.underlying t = some .string):Flat enc P t:=by
 intro W W' sp sp' n cs
 cases n with
 | zero=>rfl
 | succ n=>
  have one:∀ (W W':World) (sp sp':Nat→Bool) x,DataW.trod enc P W 0 sp true (n + 1) t cs = some x→DataW.trod enc P W' 0 sp' true (n + 1) t cs = some x:=by
   intro W W' sp sp' x h
   obtain ⟨s,rfl,rfl,hw⟩:=DataW.trod_string ht h
   simp [DataW.trod,ht,hw]
  apply Option.ext
  intro x
  exact ⟨one _ _ _ _ x,one _ _ _ _ x⟩
theorem mapM_same {α β:Type} {f g:α→Option β}:∀ l:List α,(∀ a ∈ l,f a = g a)→l.mapM f = l.mapM g
 | [],_=>rfl
 | a :: l,h=>by
  rw [List.mapM_cons,List.mapM_cons,h a (by simp),mapM_same l fun b hb=>h b (by simp [hb])]
theorem flat_struct {fs:Array Field} (ht:P.underlying t = some (.struct fs)) (hf:∀ f ∈ fs.toList,Flat enc P f.type):Flat enc P t:=by
 intro W W' sp sp' n cs
 cases n with
 | zero=>rfl
 | succ n=>
  simp only [DataW.trod,ht]
  rw [mapM_same _ fun f h=>hf f h W W' sp sp' n _]
theorem flat_array {m:Nat} (ht:P.underlying t = some (.array m e)) (hf:Flat enc P e):Flat enc P t:=by
 intro W W' sp sp' n cs
 cases n with
 | zero=>rfl
 | succ n=>
  simp only [DataW.trod,ht]
  rw [mapM_same _ fun i _=>hf W W' sp sp' n _]
theorem flat_shut (hf:Flat enc T.P t) {av:AV} (hr:RepV T (Ghost.met W) W av v) (hd:DataW.Trod enc T.P W 0 (fun _=>true) true t v d ps):ArgOk enc T W t v d ps av:=
 ⟨hr,fun W' _ sp _=>by
  obtain ⟨n,h⟩:=hd
  exact ⟨n,by rw [hf W' W sp (fun _=>true)]; exact h⟩⟩
section
variable {f0 f1 f2 f3:Field}
end
theorem post_kept {f:Func} {s:ChangeSpec} {apart fresh handsOn again:Bool} {W W':World} {args:Array Value} {v:Value} {ds gs:List (DataW H)} {before:List MemPlace}
  (hW:DataW.Whole enc P f.params.toList s.vars apart W args.toList ds gs before)
  (hres:∀ (b:Nat) (sp:Nat→Bool) (hd:Bool),DataW.TrodAll enc P W' b sp hd f.resultTypes.toList (v.resultList f.resultTypes.size) (s.fn H (ds++gs)).results [])
  (hargs:∀ sp:Nat→Bool,(∀ p ∈ before,sp p.block = true)→DataW.TrodAll enc P W' 0 sp true f.params.toList args.toList (s.fn H (ds++gs)).args before)
  (hvars:∀ sp:Nat→Bool,DataW.TrodVars enc P W' sp s.vars (s.fn H (ds++gs)).vars []) (hk:W.keptBut W' (fun _=>False))
  (hok:∀ (j:Nat) (t:TypeId) (r:Value),f.resultTypes[j]? = some t→(v.resultList f.resultTypes.size)[j]? = some r→Value.okWide P W' .any 0 t r):
  s.post enc P f apart fresh handsOn again W args v W':=by
 have hold:∀ p ∈ before,(fun b=>decide (b < W.heap.size)) p.block = true:=fun p hp=>by simpa using hW.lt p hp
 have hlt:=hW.lt
 refine ⟨ds,gs,before,[],before,[],hW,hres _ _ _,hargs _ hold,hvars _,World.keptBut_mono (fun p hp=>hp.elim) hk,fun _=>?_⟩
 obtain ⟨_,_,_,_,_,hz,hn⟩:=hW
 refine ⟨hok,_,_,([]++before)++[],⟨[]++before,[],trodAll_append (hargs _ (fun _ _=>rfl)) (hres _ _ _),hvars _,rfl,?_,?_⟩,?_⟩
 ·intro b off hp
  have hp':MemPlace.cell b off ∈ before:=by simpa using hp
  have h1:=hz b off hp'
  have h2:=hk.2.2 b (hlt _ hp')
  simp only [World.frozen?] at h1 ⊢
  cases hq:W.heap[b]? with
  | none=>
   rw [hq] at h2
   cases hq':W'.heap[b]? with
   | none=>rfl
   | some o=>rw [hq'] at h2; simp at h2
  | some o=>
   rw [hq] at h1 h2
   cases hq':W'.heap[b]? with
   | none=>rfl
   | some o'=>
    rw [hq'] at h2
    cases o <;> cases o' <;> simp_all
 ·intro ha
  simpa using hn ha
 ·intro p hp _
  simpa using hp
end Go.Pv
/- A law's arguments: arrays of two, and of three, whole numbers. Conditions: what the program's types are; theorems. -/
namespace Go.Pv
open Go.RowKit Go.ChangeShapes Go.WideShapes Go.ChangeMaps Go.WideElems Go.Deep Go.Joins
variable {H:Type} {enc:TypeId × Value→H} {T:Tie} {W:World} {t e:TypeId} {v:Value} {d:DataW H} {ps:List MemPlace} {b0:Nat}
theorem int_cell {P:Program} (he:P.underlying e = some (.int .i64)) {sp:Nat→Bool} {n:Nat} {cs:List Value} {x:DataW H × List MemPlace} (h:DataW.trod enc P W 0 sp true n e cs = some x):∃ a:Int,cs = [.int .i64 a]:=by
 cases n with
 | zero=>simp [DataW.trod] at h
 | succ n=>
  obtain ⟨a,e0,_⟩:=DataW.trod_int he h
  exact ⟨a,e0⟩
theorem arg_ints3 (ha:T.P.underlying t = some (.array 3 e)) (hC2:T.P.cellsOf t = 3) (he:T.P.underlying e = some (.int .i64)) (hC:T.P.cellsOf e = 1)
  (hval:Value.okWide T.P W .any b0 t v) (hd:DataW.Trod enc T.P W 0 (fun _=>true) true t v d ps):∃ a b c:Int,ArgOk enc T W t v d ps (.agg [.int .i64 a,.int .i64 b,.int .i64 c]):=by
 obtain ⟨cs,rfl,hsz⟩:∃ cs,v = .agg cs∧cs.size = T.P.cellsOf t:=by
  simp only [Value.okWide,ha] at hval
  obtain ⟨cs,h1,h2,_⟩:=hval
  exact ⟨cs,h1,h2⟩
 have hd':=hd
 obtain ⟨n,h⟩:=hd
 obtain ⟨xs,m,_,_,hl,hx,hall⟩:=DataW.trod_array ha h
 simp only [Value.cells] at hall hl
 have get:∀ i,i < 3→∃ a:Int,(cs.toList.drop (i * 1)).take 1 = [.int .i64 a]:=by
  intro i hi
  have:=hall i hi
  rw [hC,List.getElem?_eq_getElem (by omega)] at this
  exact int_cell he this
 obtain ⟨a,e0⟩:=get 0 (by omega)
 obtain ⟨b,e1⟩:=get 1 (by omega)
 obtain ⟨c,e3⟩:=get 2 (by omega)
 refine ⟨a,b,c,flat_shut (flat_array ha (flat_int he)) ?_ hd'⟩
 have hl2:cs.toList.length = 3:=by rw [Array.length_toList,hsz,hC2]
 have e2:cs.toList = [.int .i64 a,.int .i64 b,.int .i64 c]:=by
  generalize cs.toList = l at *
  rcases l with _ | ⟨v0,_ | ⟨v1,_ | ⟨v2,_ | ⟨v3,vs⟩⟩⟩⟩
  all_goals simp at hl2
  simp at e0 e1 e3
  rw [e0,e1,e3]
 simp only [RepV,RepL]
 exact ⟨cs.toList,rfl,_,_,e2,rfl,_,_,rfl,rfl,_,_,rfl,rfl,rfl⟩
end Go.Pv
/- A law's arguments: one alone; a struct of five whole numbers and a text. Conditions: what the program's types are; theorems. -/
namespace Go.Pv
open Go.RowKit Go.ChangeShapes Go.WideShapes Go.ChangeMaps Go.WideElems Go.Deep Go.Joins
variable {H:Type} {enc:TypeId × Value→H} {T:Tie} {W:World} {t e:TypeId} {v:Value} {d:DataW H} {ps:List MemPlace} {b0:Nat}
variable {f0 f1 f2 f3 f4 f5:Field}
theorem arg_step (ht:T.P.underlying t = some (.struct #[f0,f1,f2,f3,f4,f5])) (hone:oneCellFields T.P #[f0,f1,f2,f3,f4,f5] = true) (hC:T.P.cellsOf t = 6)
  (k0:T.P.underlying f0.type = some (.int .i64)) (k1:T.P.underlying f1.type = some (.int .i64)) (k2:T.P.underlying f2.type = some (.int .i64)) (k3:T.P.underlying f3.type = some (.int .i64)) (k4:T.P.underlying f4.type = some (.int .i64)) (k5:T.P.underlying f5.type = some .string)
  (hval:Value.okWide T.P W .any b0 t v) (hd:DataW.Trod enc T.P W 0 (fun _=>true) true t v d ps):
  ∃ (a b c e f:Int) (s:List UInt8),ArgOk enc T W t v d ps (.agg [.int .i64 a,.int .i64 b,.int .i64 c,.int .i64 e,.int .i64 f,.str s])∧s.length ≤ 9223372036854775807:=by
 obtain ⟨cs,rfl,hsz⟩:=okWide_struct ht hval
 have hd':=hd
 obtain ⟨n,h⟩:=hd
 obtain ⟨xs,m,_,_,hl,hlen,hf⟩:=DataW.trod_struct ht h
 obtain ⟨o0,c0⟩:=hone_of hone 0 f0 rfl
 obtain ⟨o1,c1⟩:=hone_of hone 1 f1 rfl
 obtain ⟨o2,c2⟩:=hone_of hone 2 f2 rfl
 obtain ⟨o3,c3⟩:=hone_of hone 3 f3 rfl
 obtain ⟨o4,c4⟩:=hone_of hone 4 f4 rfl
 obtain ⟨o5,c5⟩:=hone_of hone 5 f5 rfl
 have h0:=hf 0 f0 rfl
 have h1:=hf 1 f1 rfl
 have h2:=hf 2 f2 rfl
 have h3:=hf 3 f3 rfl
 have h4:=hf 4 f4 rfl
 have h5:=hf 5 f5 rfl
 rw [hC] at hl
 simp only [Value.cells] at h0 h1 h2 h3 h4 h5 hl
 rw [o0,c0] at h0
 rw [o1,c1] at h1
 rw [o2,c2] at h2
 rw [o3,c3] at h3
 rw [o4,c4] at h4
 rw [o5,c5] at h5
 match xs,hlen with
 | [y0,y1,y2,y3,y4,y5],_=>
  obtain ⟨n0,e0,_⟩:=DataW.trod_int k0 h0
  obtain ⟨n1,e1,_⟩:=DataW.trod_int k1 h1
  obtain ⟨n2,e2,_⟩:=DataW.trod_int k2 h2
  obtain ⟨n3,e3,_⟩:=DataW.trod_int k3 h3
  obtain ⟨n4,e4,_⟩:=DataW.trod_int k4 h4
  obtain ⟨s,e5,_,hs⟩:=DataW.trod_string k5 h5
  have hfl:Flat enc T.P t:=flat_struct ht (by
   intro f hf
   simp only [List.mem_cons,List.not_mem_nil,or_false] at hf
   rcases hf with rfl | rfl | rfl | rfl | rfl | rfl
   ·exact flat_int k0
   ·exact flat_int k1
   ·exact flat_int k2
   ·exact flat_int k3
   ·exact flat_int k4
   ·exact flat_string k5)
  have he:cs.toList = [.int .i64 n0,.int .i64 n1,.int .i64 n2,.int .i64 n3,.int .i64 n4,.string s]:=by
   generalize cs.toList = l at *
   rcases l with _ | ⟨v0,_ | ⟨v1,_ | ⟨v2,_ | ⟨v3,_ | ⟨v4,_ | ⟨v5,_ | ⟨v6,vs⟩⟩⟩⟩⟩⟩⟩
   all_goals simp at hl
   simp at e0 e1 e2 e3 e4 e5
   rw [e0,e1,e2,e3,e4,e5]
  refine ⟨n0,n1,n2,n3,n4,s.data.toList,flat_shut hfl ?_ hd',?_⟩
  ·simp only [RepV,RepL]
   exact ⟨cs.toList,rfl,_,_,he,rfl,_,_,rfl,rfl,_,_,rfl,rfl,_,_,rfl,rfl,_,_,rfl,rfl,_,_,rfl,rfl,rfl⟩
  ·have:s.size ≤ 9223372036854775807:=hs
   have h2:s.data.toList.length = s.size:=Array.length_toList
   omega
end Go.Pv
