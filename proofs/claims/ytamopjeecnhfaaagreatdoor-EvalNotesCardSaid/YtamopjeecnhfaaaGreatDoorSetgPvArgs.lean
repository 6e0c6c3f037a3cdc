/- A part of the proof: functions of the program in the evaluator's code, and what they come to. Conditions: none; definitions and theorems that the statement's proof uses. -/
import Derived.Test.YtamopjeecnhfaaaGreatDoorSetgPcTree3
import Derived.Test.YtamopjeecnhfaaaGreatDoorSetgPcParse7
import Derived.ChangeSlices
import Derived.ChangeMaps5
import Derived.OpenShut
import Derived.Lib.SmallJoins
/- Arguments: opened, and shut behind the call. Conditions: what the program's types are; lemmas. -/
namespace Go.Pv
open Go.RowKit Go.ChangeShapes Go.WideShapes Go.ChangeMaps Go.WideElems Go.Deep Go.Joins
variable {H:Type} {enc:TypeId × Value→H} {T:Tie} {W:World} {t e:TypeId} {v:Value} {d:DataW H} {ps:List MemPlace} {b0:Nat}
structure ArgOk (enc:TypeId × Value→H) (T:Tie) (W:World) (t:TypeId) (v:Value) (d:DataW H) (ps:List MemPlace) (av:AV):Prop where
 rep:RepV T (Ghost.met W) W av v
 shut:∀ W':World,W.keptBut W' (fun _=>False)→∀ sp:Nat→Bool,(∀ p ∈ ps,sp p.block = true)→DataW.Trod enc T.P W' 0 sp true t v d ps
theorem arg_int (ht:T.P.underlying t = some (.int .i64)) (hval:Value.okWide T.P W .any b0 t v) (hd:DataW.Trod enc T.P W 0 (fun _=>true) true t v d ps):∃ n,ArgOk enc T W t v d ps (.int .i64 n):=by
 obtain ⟨n,rfl,rfl,rfl,w⟩:=open_int ht hval hd
 exact ⟨n,⟨by simp [RepV],fun W' _ sp _=>shut_int ht w⟩⟩
theorem rep_ints {G:Ghost}:∀ l:List Int,RepL T G W (l.map (.int .i64)) (l.map (.int .i64))
 | []=>by simp [RepL]
 | n :: l=>by
  simp only [List.map_cons,RepL]
  exact ⟨_,_,rfl,by simp [RepV],rep_ints l⟩
theorem row_mem {a:Addr} {n:Nat} (hn:0 < n):MemPlace.cell a.block a.off ∈ MemPlace.row a n:=by
 simp only [MemPlace.row,List.mem_map,List.mem_range]
 exact ⟨0,hn,by simp⟩
theorem arg_ints (ht:T.P.underlying t = some (.slice e)) (he:T.P.underlying e = some (.int .i64)) (hc:T.P.cellsOf e = 1) (hval:Value.okWide T.P W .any b0 t v) (hd:DataW.Trod enc T.P W 0 (fun _=>true) true t v d ps):
  ∃ L av,IntsV av L∧ArgOk enc T W t v d ps av:=by
 obtain ⟨a0,l0,c0,rfl⟩:=okWide_slice ht hval
 obtain ⟨fuel,hf⟩:=hd
 rcases open_ints ht he hc hf with ⟨h1,h2⟩ | ⟨a,len,cap,zs,h1,hb,hl,hm,hz,h2,hcell,hw⟩
 ·simp only [Value.cells,List.cons.injEq,Value.slice.injEq,and_true] at h1
  obtain ⟨rfl,rfl,rfl⟩:=h1
  simp only [Prod.mk.injEq] at h2
  obtain ⟨rfl,rfl⟩:=h2
  refine ⟨[],.nils,.inl ⟨rfl,rfl⟩,by simp [RepV],fun W' _ sp _=>⟨1,?_⟩⟩
  simp [DataW.trod,Value.cells,ht]
 ·simp only [Value.cells,List.cons.injEq,Value.slice.injEq,and_true] at h1
  obtain ⟨rfl,rfl,rfl⟩:=h1
  simp only [Prod.mk.injEq] at h2
  obtain ⟨rfl,rfl⟩:=h2
  simp only [if_true] at hz
  have hlz:(zs.take l0).length = l0:=by rw [List.length_take]; omega
  refine ⟨zs.take l0,.vs .shared l0 ((zs.take l0).map (.int .i64)),.inr ⟨.shared,by rw [hlz]⟩,?_,fun W' hk sp hsp=>?_⟩
  ·simp only [RepV]
   refine ⟨_,_,rfl,hl,by simp,by simp,by simp,fun hne=>?_,fun h0=>by simp [h0]⟩
   have hpos:0 < zs.length:=by
    cases zs with
    | nil=>simp at hne
    | cons _ _=>simp
   obtain ⟨b,off,rfl,hcl⟩:=ints_at hcell hpos
   have hc0:=hcl 0 hpos
   obtain ⟨c,ce,fz,hblk⟩:∃ c ce fz,W.heap[b]? = some (.cells c ce fz):=by
    cases hq:W.heap[b]? with
    | none=>simp [World.cell?,hq] at hc0
    | some ob=>
     cases ob <;> first | (simp [World.cell?,hq] at hc0; done) | skip
     exact ⟨_,_,_,rfl⟩
   have hcell':∀ j,j < zs.length→c[off + j]? = some (.int .i64 (zs.getD j 0)):=fun j hj=>by
    have:=hcl j hj
    simp only [World.cell?,hblk] at this
    simpa using this
   refine ⟨b,off,c.size,rfl,by simp [Ghost.met,hblk],?_,?_⟩
   ·have:=hcell' (zs.length - 1) (by omega)
    have:=(Array.getElem?_eq_some_iff.1 this).1
    rw [List.length_map,hlz]
    omega
   ·refine RepM.of_list (rep_ints _) fun i x hx=>?_
    have hi:i < (zs.take l0).length:=by
     have:=(List.getElem?_eq_some_iff.1 hx).1
     simpa using this
    rw [List.getElem?_map,List.getElem?_eq_getElem hi] at hx
    simp only [Option.map_some,Option.some.injEq] at hx
    subst hx
    have hi2:i < zs.length:=by omega
    rw [hcl i hi2]
    congr 2
    rw [List.getElem_take]
    simp [List.getD,hi2]
  ·rcases Nat.eq_zero_or_pos zs.length with h0 | hpos
   ·refine ⟨0 + 2,?_⟩
    exact shut_ints 0 ht he hc (Nat.zero_le _) hl hm (by rw [h0]; split <;> omega) (fun i hi=>by omega) hw
   ·refine ⟨0 + 2,?_⟩
    have hspb:=hsp _ (row_mem (a:=a) hpos)
    obtain ⟨b,off,rfl,hcl⟩:=ints_at hcell hpos
    have hb':b < W.heap.size:=by
     have hc0:=hcl 0 hpos
     cases hq:W.heap[b]? with
     | none=>simp [World.cell?,hq] at hc0
     | some ob=>exact (Array.getElem?_eq_some_iff.1 hq).1
    exact shut_ints' 0 ht he hc (Nat.zero_le _) hl hm (by
     have:sp b = true:=hspb
     rw [this]; simpa using hz) (fun i hi=>by rw [hk.cell hb' (by simp)]; exact hcl i hi) hw
variable {P:Program}
section
variable {f0 f1 f2 f3:Field}
end
theorem post_kept {f:Func} {s:ChangeSpec} {apart fresh handsOn again:Bool} {W W':World} {args:Array Value} {v:Value} {ds gs:List (DataW H)} {before:List MemPlace}
  (hW:DataW.Whole enc P f.params.toList s.vars apart W args.toList ds gs before)
  (hres:∀ (b:Nat) (sp:Nat→Bool) (hd:Bool),DataW.TrodAll enc P W' b sp hd f.resultTypes.toList (v.resultList f.resultTypes.size) (s.fn H (ds++gs)).results [])
  (hargs:∀ sp:Nat→Bool,(∀ p ∈ before,sp p.block = true)→DataW.TrodAll enc P W' 0 sp true f.params.toList args.toList (s.fn H (ds++gs)).args before)
  (hvars:∀ sp:Nat→Bool,DataW.TrodVars enc P W' sp s.vars (s.fn H (ds++gs)).vars []) (hk:W.keptBut W' (fun _=>False))
  (hok:∀ (j:Nat) (t:TypeId) (r:Value),f.resultTypes[j]? = some t→(v.resultList f.resultTypes.size)[j]? = some r→Value.okWide P W' .any 0 t r):
  s.post enc P f apart fresh handsOn again W args v W':=by
 have hold:∀ p ∈ before,(fun b=>decide (b < W.heap.size)) p.block = true:=fun p hp=>by simpa using hW.lt p hp
 have hlt:=hW.lt
 refine ⟨ds,gs,before,[],before,[],hW,hres _ _ _,hargs _ hold,hvars _,World.keptBut_mono (fun p hp=>hp.elim) hk,fun _=>?_⟩
 obtain ⟨_,_,_,_,_,hz,hn⟩:=hW
 refine ⟨hok,_,_,([]++before)++[],⟨[]++before,[],trodAll_append (hargs _ (fun _ _=>rfl)) (hres _ _ _),hvars _,rfl,?_,?_⟩,?_⟩
 ·intro b off hp
  have hp':MemPlace.cell b off ∈ before:=by simpa using hp
  have h1:=hz b off hp'
  have h2:=hk.2.2 b (hlt _ hp')
  simp only [World.frozen?] at h1 ⊢
  cases hq:W.heap[b]? with
  | none=>
   rw [hq] at h2
   cases hq':W'.heap[b]? with
   | none=>rfl
   | some o=>rw [hq'] at h2; simp at h2
  | some o=>
   rw [hq] at h1 h2
   cases hq':W'.heap[b]? with
   | none=>rfl
   | some o'=>
    rw [hq'] at h2
    cases o <;> cases o' <;> simp_all
 ·intro ha
  simpa using hn ha
 ·intro p hp _
  simpa using hp
end Go.Pv
