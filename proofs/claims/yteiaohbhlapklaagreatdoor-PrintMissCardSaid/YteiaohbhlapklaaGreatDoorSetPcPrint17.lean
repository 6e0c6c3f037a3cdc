/- A part of the proof: functions of the program in the evaluator's code, and what they come to. Conditions: none; definitions and theorems that the statement's proof uses. -/
import Derived.Test.YteiaohbhlapklaaGreatDoorSetPcPrint9
/- PrintMiss is true. Conditions: the functions' codes; theorems. -/
namespace Go.Pv
variable {E:Env} {x:Int}
theorem printD_three (L:List Int):(∃ j e,printD x (madeT L) = ([],j,e)∧MissAt x (madeT L) j e)∨∃ s e,printD x (madeT L) = (s,0,e)∧(e = 12∨e = 0):=by
 obtain ⟨k1,k2,k3⟩:=madeT_ok L
 have hd:=made_deep L
 unfold printD
 cases h:missD x (madeT L).steps 0 with
 | some ie=>
  obtain ⟨i,e⟩:=ie
  exact .inl ⟨i,e,rfl,miss_is k1 h⟩
 | none=>
  simp only
  rw [if_neg (by omega)]
  split
  ·exact .inr ⟨_,12,rfl,.inl rfl⟩
  ·exact .inr ⟨_,0,rfl,.inr rfl⟩
theorem six {l:List AV} {a0 a1 a2 a3 a4 a5:AV} (h:l.take 6 = [a0,a1,a2,a3,a4,a5]):l.take 1 = [a0]∧(l.drop 5).take 1 = [a5]:=by
 match l,h with
 | [],h=>cases h
 | [_],h=>cases h
 | [_,_],h=>cases h
 | [_,_,_],h=>cases h
 | [_,_,_,_],h=>cases h
 | [_,_,_,_,_],h=>cases h
 | b0 :: b1 :: b2 :: b3 :: b4 :: b5 :: r,h=>
  simp only [List.take_succ_cons,List.take_zero,List.cons.injEq,and_true] at h
  obtain ⟨rfl,rfl,rfl,rfl,rfl,rfl⟩:=h
  exact ⟨rfl,rfl⟩
set_option maxHeartbeats 1000000 in
set_option maxRecDepth 20000 in
theorem printMiss_eq (H:Has 222 E) (n:Int) {v:AV} {L:List Int} (hv:IntsV v L):EvClosed E (.fn (.func 222) [] []) [.int .i64 n,v] = some (.bool true):=by
 obtain ⟨v',sv,hv'⟩:=ints_shut hv
 rw [EvClosed_eq H.c222 rfl (vs:=[.int .i64 n,v']) (by simp [sv]),EvFn_eq]
 have hk:1 ≤ 1 + n % 5∧1 + n % 5 ≤ 5:=by omega
 have hw:IntKind.i64.wrap (1 + n % 5) = 1 + n % 5:=w64
 have hr:=rest232_eq (H.to 232) (x:=n) (m:=5) (by omega) (by omega)
 generalize n % 5 = r at *
 have hkk:∃ k,k = 1 + r:=⟨_,rfl⟩
 obtain ⟨k,hkk⟩:=hkk
 rw [← hkk] at hk hw
 have hn:isN k = true:=by simp [isN,hk]
 have haw:=awake231_eq (H.to 231)
 have hm:=made_eq (H.to 163) hv'
 obtain ⟨k1,k2,k3⟩:=madeT_ok L
 have hp:=print235_eq (H.to 235) hn k1 k2 k3 (stepsV_tree _)
 have ct:=stepsV_cell (madeT L).steps
 rcases printD_three (x:=k) L with ⟨j,e,h0,hM⟩ | ⟨s,e,h0,he⟩
 ·rw [h0] at hp
  simp only [prtT] at hp
  have hjl:j < (madeT L).steps.length:=by
   cases hM with
   | note o w h1=>exact (List.getElem?_eq_some_iff.1 h1).1
   | sym p a n h1=>exact (List.getElem?_eq_some_iff.1 h1).1
  have e6:(((madeT L).steps.flatMap StepA.cs).drop (j * 6)).take 6 = (madeT L).steps[j].cs:=fm_el StepA.len hjl
  have ll:((madeT L).steps.flatMap StepA.cs).length = (madeT L).steps.length * 6:=fm_len StepA.len _
  have d1:decide ((j:Int) < 0) = false:=decide_eq_false (by omega)
  have d2:decide (((madeT L).steps.length:Int) ≤ (j:Int)) = false:=decide_eq_false (by omega)
  have h65:5 < (madeT L).steps.length * 6 - j * 6:=by omega
  have h66:1 ≤ (madeT L).steps.length * 6 - (j * 6 + 5):=by omega
  have h61:0 < (madeT L).steps.length * 6 - j * 6:=by omega
  have h62:1 ≤ (madeT L).steps.length * 6 - j * 6:=by omega
  have d3:¬ (madeT L).steps.length ≤ j:=by omega
  have h6:6 ≤ (madeT L).steps.length * 6 - j * 6:=by omega
  have h60:j * 6 < (madeT L).steps.length * 6:=by omega
  have hpos:=Tr.steps_pos (madeT L)
  have hne:(madeT L).steps.isEmpty = false:=by
   cases hs:(madeT L).steps with
   | nil=>rw [hs] at hpos; simp at hpos
   | cons a b=>rfl
  obtain ⟨own,hsv⟩:∃ own,stepsV (madeT L).steps = .vs own (madeT L).steps.length ((madeT L).steps.flatMap StepA.cs):=⟨_,by unfold stepsV; rw [hne]; rfl⟩
  cases hM with
  | note o w h1 ho hl hpl=>
   have e7:(madeT L).steps[j] = ⟨o,-1,0,0,0,w⟩:=(List.getElem?_eq_some_iff.1 h1).2
   rw [e7] at e6
   have hpn:=refPlain_eq (H.to 172) k w hl
   rw [hpl] at hpn
   simp only [StepA.cs] at e6
   obtain ⟨e61,e65⟩:=six e6
   rw [List.drop_drop] at e65
   rw [hsv] at hp hm
   generalize (madeT L).steps.flatMap StepA.cs = ca at *
   clear e7 h1
   generalize (madeT L).steps.length = nn at *
   rw [hkk] at hw hp hpn
   rcases ho with rfl | rfl <;> simp [f222,start,EvCall_closed H.c231 rfl,EvCall_closed H.c232 rfl,EvCall_closed H.c163 rfl,EvCall_closed H.c235 rfl,EvCall_closed H.c172 rfl,haw,hr,hw,hm,hp,hpn,d1,d3,h65,h61,h62,h66,e61,e65,hjl,ll,h60]
  | sym p a m h1 ht h2=>
   have e7:(madeT L).steps[j] = ⟨2,p,a,m,0,[]⟩:=(List.getElem?_eq_some_iff.1 h1).2
   rw [e7] at e6
   have hp2:=print235_eq (H.to 235) hn ht trivial (by simp [Tr.steps]) (v:=.vs .full 1 (StepA.cs ⟨2,p,a,m,0,[]⟩)) (.inr ⟨.full,by simp [Tr.steps]⟩)
   rw [h2] at hp2
   simp only [prtT] at hp2
   simp only [StepA.cs] at e6 hp2
   rw [hsv] at hp hm
   generalize (madeT L).steps.flatMap StepA.cs = ca at *
   clear e7 h1
   generalize (madeT L).steps.length = nn at *
   rw [hkk] at hw hp hp2
   simp [f222,start,EvCall_closed H.c231 rfl,EvCall_closed H.c232 rfl,EvCall_closed H.c163 rfl,EvCall_closed H.c235 rfl,haw,hr,hw,hm,hp,hp2,d1,d3,hjl,e6,ll,h6,h60,push_setk]
 ·rw [h0] at hp
  simp only [prtT] at hp
  generalize stepsV (madeT L).steps = tv at *
  rw [hkk] at hw hp
  rcases he with rfl | rfl <;> simp [f222,start,EvCall_closed H.c231 rfl,EvCall_closed H.c232 rfl,EvCall_closed H.c163 rfl,EvCall_closed H.c235 rfl,haw,hr,hw,hm,hp]
end Go.Pv
