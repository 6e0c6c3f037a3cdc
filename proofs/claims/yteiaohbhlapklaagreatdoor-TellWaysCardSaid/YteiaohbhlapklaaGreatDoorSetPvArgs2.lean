/- A part of the proof: functions of the program in the evaluator's code, and what they come to. Conditions: none; definitions and theorems that the statement's proof uses. -/
import Derived.Test.YteiaohbhlapklaaGreatDoorSetPcBack4
/- A law's arguments: arrays of two, and of three, whole numbers. Conditions: what the program's types are; theorems. -/
namespace Go.Pv
open Go.RowKit Go.ChangeShapes Go.WideShapes Go.ChangeMaps Go.WideElems Go.Deep Go.Joins
variable {H:Type} {enc:TypeId × Value→H} {T:Tie} {W:World} {t e:TypeId} {v:Value} {d:DataW H} {ps:List MemPlace} {b0:Nat}
theorem int_cell {P:Program} (he:P.underlying e = some (.int .i64)) {sp:Nat→Bool} {n:Nat} {cs:List Value} {x:DataW H × List MemPlace} (h:DataW.trod enc P W 0 sp true n e cs = some x):∃ a:Int,cs = [.int .i64 a]:=by
 cases n with
 | zero=>simp [DataW.trod] at h
 | succ n=>
  obtain ⟨a,e0,_⟩:=DataW.trod_int he h
  exact ⟨a,e0⟩
theorem arg_ints2 (ha:T.P.underlying t = some (.array 2 e)) (hC2:T.P.cellsOf t = 2) (he:T.P.underlying e = some (.int .i64)) (hC:T.P.cellsOf e = 1)
  (hval:Value.okWide T.P W .any b0 t v) (hd:DataW.Trod enc T.P W 0 (fun _=>true) true t v d ps):∃ a b:Int,ArgOk enc T W t v d ps (.agg [.int .i64 a,.int .i64 b]):=by
 obtain ⟨cs,rfl,hsz⟩:∃ cs,v = .agg cs∧cs.size = T.P.cellsOf t:=by
  simp only [Value.okWide,ha] at hval
  obtain ⟨cs,h1,h2,_⟩:=hval
  exact ⟨cs,h1,h2⟩
 have hd':=hd
 obtain ⟨n,h⟩:=hd
 obtain ⟨xs,m,_,_,hl,hx,hall⟩:=DataW.trod_array ha h
 simp only [Value.cells] at hall hl
 have get:∀ i,i < 2→∃ a:Int,(cs.toList.drop (i * 1)).take 1 = [.int .i64 a]:=by
  intro i hi
  have:=hall i hi
  rw [hC,List.getElem?_eq_getElem (by omega)] at this
  exact int_cell he this
 obtain ⟨a,e0⟩:=get 0 (by omega)
 obtain ⟨b,e1⟩:=get 1 (by omega)
 refine ⟨a,b,flat_shut (flat_array ha (flat_int he)) ?_ hd'⟩
 have hl2:cs.toList.length = 2:=by rw [Array.length_toList,hsz,hC2]
 have e2:cs.toList = [.int .i64 a,.int .i64 b]:=by
  generalize cs.toList = l at *
  rcases l with _ | ⟨v0,_ | ⟨v1,_ | ⟨v2,vs⟩⟩⟩
  all_goals simp at hl2
  simp at e0 e1
  rw [e0,e1]
 simp only [RepV,RepL]
 exact ⟨cs.toList,rfl,_,_,e2,rfl,_,_,rfl,rfl,rfl⟩
theorem arg_ints3 (ha:T.P.underlying t = some (.array 3 e)) (hC2:T.P.cellsOf t = 3) (he:T.P.underlying e = some (.int .i64)) (hC:T.P.cellsOf e = 1)
  (hval:Value.okWide T.P W .any b0 t v) (hd:DataW.Trod enc T.P W 0 (fun _=>true) true t v d ps):∃ a b c:Int,ArgOk enc T W t v d ps (.agg [.int .i64 a,.int .i64 b,.int .i64 c]):=by
 obtain ⟨cs,rfl,hsz⟩:∃ cs,v = .agg cs∧cs.size = T.P.cellsOf t:=by
  simp only [Value.okWide,ha] at hval
  obtain ⟨cs,h1,h2,_⟩:=hval
  exact ⟨cs,h1,h2⟩
 have hd':=hd
 obtain ⟨n,h⟩:=hd
 obtain ⟨xs,m,_,_,hl,hx,hall⟩:=DataW.trod_array ha h
 simp only [Value.cells] at hall hl
 have get:∀ i,i < 3→∃ a:Int,(cs.toList.drop (i * 1)).take 1 = [.int .i64 a]:=by
  intro i hi
  have:=hall i hi
  rw [hC,List.getElem?_eq_getElem (by omega)] at this
  exact int_cell he this
 obtain ⟨a,e0⟩:=get 0 (by omega)
 obtain ⟨b,e1⟩:=get 1 (by omega)
 obtain ⟨c,e3⟩:=get 2 (by omega)
 refine ⟨a,b,c,flat_shut (flat_array ha (flat_int he)) ?_ hd'⟩
 have hl2:cs.toList.length = 3:=by rw [Array.length_toList,hsz,hC2]
 have e2:cs.toList = [.int .i64 a,.int .i64 b,.int .i64 c]:=by
  generalize cs.toList = l at *
  rcases l with _ | ⟨v0,_ | ⟨v1,_ | ⟨v2,_ | ⟨v3,vs⟩⟩⟩⟩
  all_goals simp at hl2
  simp at e0 e1 e3
  rw [e0,e1,e3]
 simp only [RepV,RepL]
 exact ⟨cs.toList,rfl,_,_,e2,rfl,_,_,rfl,rfl,_,_,rfl,rfl,rfl⟩
end Go.Pv
