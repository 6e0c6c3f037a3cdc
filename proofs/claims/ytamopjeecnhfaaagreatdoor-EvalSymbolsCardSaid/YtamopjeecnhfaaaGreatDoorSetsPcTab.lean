/- A part of the proof: functions of the program in the evaluator's code, and what they come to. Conditions: none; definitions and theorems that the statement's proof uses. -/
import Derived.Test.YtamopjeecnhfaaaGreatDoorSetsPcFr25
import Derived.Test.YtamopjeecnhfaaaGreatDoorSetsPcLib
/- The table of units and of prefixes, by program. Conditions: none; definitions. -/
namespace Go.Pv
def atomsT:List AtomR:=[
 ⟨[109],[77],[109],[77],[109],true,0,0,1,1,0,[]⟩,
 ⟨[115],[83],[115],[83],[115],true,0,1,1,1,0,[]⟩,
 ⟨[103],[71],[103],[71],[103],true,0,2,1,1,0,[]⟩,
 ⟨[114,97,100],[82,65,68],[114,97,100],[82,65,68],[114,97,100],true,0,3,1,1,0,[]⟩,
 ⟨[75],[75],[75],[75],[75],true,0,4,1,1,0,[]⟩,
 ⟨[67],[67],[67],[67],[67],true,0,5,1,1,0,[]⟩,
 ⟨[99,100],[67,68],[99,100],[67,68],[99,100],true,0,6,1,1,0,[]⟩,
 ⟨[37],[37],[37],[],[37],false,0,-1,1,1,-2,[]⟩,
 ⟨[109,111,108],[77,79,76],[109,111,108],[77,79,76],[109,111,108],true,0,-1,602214076,1,15,[]⟩,
 ⟨[115,114],[83,82],[115,114],[83,82],[115,114],true,0,-1,1,1,0,[(3,2)]⟩,
 ⟨[72,122],[72,90],[72,122],[72,90],[72,122],true,0,-1,1,1,0,[(1,-1)]⟩,
 ⟨[78],[78],[78],[78],[78],true,0,-1,1,1,3,[(2,1),(0,1),(1,-2)]⟩,
 ⟨[80,97],[80,65,76],[80,97],[80,65],[80,97],true,0,-1,1,1,0,[(11,1),(0,-2)]⟩,
 ⟨[74],[74],[74],[74],[74],true,0,-1,1,1,0,[(11,1),(0,1)]⟩,
 ⟨[87],[87],[87],[87],[87],true,0,-1,1,1,0,[(13,1),(1,-1)]⟩,
 ⟨[65],[65],[65],[65],[65],true,0,-1,1,1,0,[(5,1),(1,-1)]⟩,
 ⟨[86],[86],[86],[86],[86],true,0,-1,1,1,0,[(13,1),(5,-1)]⟩,
 ⟨[70],[70],[70],[70],[70],true,0,-1,1,1,0,[(5,1),(16,-1)]⟩,
 ⟨[79,104,109],[79,72,77],[79,104,109],[79,72,77],[111,104,109],true,0,-1,1,1,0,[(16,1),(15,-1)]⟩,
 ⟨[83],[83,73,69],[83],[83,73,69],[83],true,0,-1,1,1,0,[(18,-1)]⟩,
 ⟨[87,98],[87,66],[87,98],[87,66],[87,98],true,0,-1,1,1,0,[(16,1),(1,1)]⟩,
 ⟨[67,101,108],[67,69,76],[91,111,67,93],[67,69,76],[],true,1,-1,1,1,0,[(4,1)]⟩,
 ⟨[84],[84],[84],[84],[84],true,0,-1,1,1,0,[(20,1),(0,-2)]⟩,
 ⟨[72],[72],[72],[72],[72],true,0,-1,1,1,0,[(20,1),(15,-1)]⟩,
 ⟨[108,109],[76,77],[108,109],[76,77],[108,109],true,0,-1,1,1,0,[(6,1),(9,1)]⟩,
 ⟨[108,120],[76,88],[108,120],[76,88],[108,120],true,0,-1,1,1,0,[(24,1),(0,-2)]⟩,
 ⟨[66,113],[66,81],[66,113],[66,81],[66,113],true,0,-1,1,1,0,[(1,-1)]⟩,
 ⟨[71,121],[71,89],[71,121],[71,89],[71,121],true,0,-1,1,1,-3,[(13,1),(2,-1)]⟩,
 ⟨[83,118],[83,86],[83,118],[83,86],[83,118],true,0,-1,1,1,-3,[(13,1),(2,-1)]⟩,
 ⟨[108],[76],[76],[76],[108],true,0,-1,1,1,-3,[(0,3)]⟩,
 ⟨[97,114],[65,82],[97],[65,82,69],[97],true,0,-1,1,1,2,[(0,2)]⟩,
 ⟨[109,105,110],[77,73,78],[109,105,110],[77,73,78],[109,105,110],false,0,-1,6,1,1,[(1,1)]⟩,
 ⟨[104],[72,82],[104],[72,82],[104,114],false,0,-1,36,1,2,[(1,1)]⟩,
 ⟨[100],[68],[100],[68],[100],false,0,-1,24,1,0,[(32,1)]⟩,
 ⟨[97],[65,78,78],[121,114],[65,78,78],[121,114],false,0,-1,36525,1,-2,[(33,1)]⟩,
 ⟨[116],[84,78,69],[116],[84,78,69],[116],true,0,-1,1,1,6,[(2,1)]⟩,
 ⟨[98,97,114],[66,65,82],[98,97,114],[66,65,82],[98,97,114],true,0,-1,1,1,5,[(12,1)]⟩,
 ⟨[91,105,110,95,105,93],[91,73,78,95,73,93],[105,110],[73,78],[105,110],false,0,-1,254,1,-4,[(0,1)]⟩,
 ⟨[91,108,98,95,97,118,93],[91,76,66,95,65,86,93],[108,98],[76,66],[108,98],false,0,-1,45359237,1,-5,[(2,1)]⟩,
 ⟨[91,112,72,93],[91,80,72,93],[112,72],[],[],false,2,-1,1,1,0,[(8,1),(29,-1)]⟩,
 ⟨[66],[66],[66],[],[],true,3,-1,1,1,0,[]⟩,
 ⟨[91,105,85,93],[91,73,85,93],[73,85],[],[73,85],true,0,-1,1,1,0,[]⟩,
 ⟨[101,113],[69,81],[101,113],[69,81],[101,113],true,0,-1,1,1,0,[(8,1)]⟩,
 ⟨[111,115,109],[79,83,77],[111,115,109],[79,83,77],[111,115,109],true,0,-1,1,1,0,[(8,1)]⟩,
 ⟨[107,97,116],[75,65,84],[107,97,116],[75,65,84],[107,97,116],true,0,-1,1,1,0,[(8,1),(1,-1)]⟩,
 ⟨[117],[65,77,85],[117],[85],[117],true,0,-1,16605390666,1,-34,[(2,1)]⟩,
 ⟨[101,86],[69,86],[101,86],[69,86],[101,86],true,0,-1,1602176634,1,-28,[(13,1)]⟩,
 ⟨[91,100,114,95,97,118,93],[91,68,82,95,65,86,93],[100,114],[],[100,114],false,0,-1,1,256,0,[(38,1)]⟩]
def prefsT:List PrefR:=[
 ⟨[89],[89,65],[89],[],[89],24⟩,
 ⟨[90],[90,65],[90],[],[90],21⟩,
 ⟨[69],[69,88],[69],[69],[69],18⟩,
 ⟨[80],[80,84],[80],[80,69],[80],15⟩,
 ⟨[84],[84,82],[84],[84],[84],12⟩,
 ⟨[71],[71,65],[71],[71],[71],9⟩,
 ⟨[77],[77,65],[77],[77,65],[77],6⟩,
 ⟨[107],[75],[107],[75],[107],3⟩,
 ⟨[104],[72],[104],[72],[104],2⟩,
 ⟨[100,97],[68,65],[100,97],[68,65],[100,97],1⟩,
 ⟨[100],[68],[100],[68],[100],-1⟩,
 ⟨[99],[67],[99],[67],[99],-2⟩,
 ⟨[109],[77],[109],[77],[109],-3⟩,
 ⟨[117],[85],[117],[85],[117],-6⟩,
 ⟨[110],[78],[110],[78],[110],-9⟩,
 ⟨[112],[80],[112],[80],[112],-12⟩,
 ⟨[102],[70],[102],[70],[102],-15⟩,
 ⟨[97],[65],[97],[65],[97],-18⟩,
 ⟨[122],[90,79],[122],[],[122],-21⟩,
 ⟨[121],[89,79],[121],[],[121],-24⟩]
end Go.Pv
/- A slice that is appended to. Conditions: none; lemmas. -/
namespace Go.Pv
def AHeap.toks_ (h:AHeap) (ts:List Nat):AHeap:={ h with toks:=ts }
theorem bl_toks (h:AHeap) (ts:List Nat) (i:Nat):(h.toks_ ts).bl i = h.bl i:=rfl
theorem len_toks (h:AHeap) (ts:List Nat):(h.toks_ ts).blks.length = h.blks.length:=rfl
theorem ro_toks (h:AHeap) (ts:List Nat):(h.toks_ ts).ro = h.ro:=rfl
theorem tk_toks (h:AHeap) (ts:List Nat) (i:Nat):(h.toks_ ts).tk i = ts[i]?:=rfl
def Grow (h:AHeap) (sz:Nat) (cs:List AV) (len:Nat) (v:AV):Prop:=
 (v = .nils∧cs = []∧len = 0)∨∃ k,v = .vs (.tok k sz) len cs∧cs.length = len * sz∧h.tk k = some cs.length∧h.rot ≤ k∧0 < len
theorem grow_nil (h:AHeap) (sz:Nat):Grow h sz [] 0 .nils:=.inl ⟨rfl,rfl,rfl⟩
theorem grow_app {h:AHeap} {sz bytes:Nat} {cs:List AV} {len m:Nat} {v:AV} {xs:List AV} (g:Grow h sz cs len v) (hr:h.rot ≤ h.toks.length) (hb:(len + m) * bytes ≤ 140737488355328) (hm:0 < m) (hsz:0 < sz) (hx:xs.length = m * sz) (hc:xs.all AV.isCell = true):
  ∃ ts v',appendA sz bytes h (den v) (.vs .full m xs) = some (v',h.toks_ ts)∧Grow (h.toks_ ts) sz (cs++xs) (len + m) v'∧h.toks.length ≤ ts.length:=by
 have hm0:¬ m = 0:=by omega
 rcases g with ⟨rfl,rfl,rfl⟩ | ⟨k,rfl,h1,h2,h3,h4⟩
 ·simp only [Nat.zero_add] at hb
  refine ⟨h.toks++[0 + xs.length],.vs (.tok h.toks.length sz) (0 + m) ([]++xs),?_,.inr ⟨_,rfl,?_,?_,?_,by omega⟩,by simp⟩
  ·simp [appendA,den,sliceCells,hx,hb,hsz,hm0,AHeap.toks_]
   exact List.all_eq_true.1 hc
  ·simpa using hx
  ·simp [tk_toks]
  ·exact hr
 ·have hkl:k < h.toks.length:=(List.getElem?_eq_some_iff.1 h2).1
  have hcs:den (.vs (.tok k sz) len cs) = .vs (.tok k sz) len cs:=rfl
  refine ⟨h.toks.set k (cs.length + xs.length),.vs (.tok k sz) (len + m) (cs++xs),?_,.inr ⟨_,rfl,?_,?_,h3,by omega⟩,by simp⟩
  ·rw [hcs]
   rw [h1] at h2
   simp [appendA,sliceCells,hx,hb,hsz,hm0,AHeap.toks_,h1,h2,h3]
   exact List.all_eq_true.1 hc
  ·simp [h1,hx,Nat.add_mul]
  ·simp [tk_toks,hkl]
theorem Grow.len {h:AHeap} {sz:Nat} {cs:List AV} {len:Nat} {v:AV} (g:Grow h sz cs len v):cs.length = len * sz:=by
 rcases g with ⟨_,rfl,rfl⟩ | ⟨k,_,h1,_⟩
 ·simp
 ·exact h1
theorem Grow.of_heap {h h':AHeap} {sz:Nat} {cs:List AV} {len:Nat} {v:AV} (g:Grow h sz cs len v) (ht:h'.toks = h.toks) (hr:h'.rot = h.rot):Grow h' sz cs len v:=by
 rcases g with g | ⟨k,g1,g2,g3,g4,g5⟩
 ·exact .inl g
 ·exact .inr ⟨k,g1,g2,by show h'.toks[k]? = _; rw [ht]; exact g3,by rw [hr]; exact g4,g5⟩
theorem Grow.cell {h:AHeap} {sz:Nat} {cs:List AV} {len:Nat} {v:AV} (g:Grow h sz cs len v):v.isCell = true:=by
 rcases g with ⟨rfl,_⟩ | ⟨k,rfl,_⟩ <;> simp
theorem Grow.cells {h:AHeap} {sz:Nat} {cs:List AV} {len:Nat} {v:AV} (g:Grow h sz cs len v):v.cells? = some [v]:=by
 rcases g with ⟨rfl,_⟩ | ⟨k,rfl,_⟩ <;> simp
end Go.Pv
/- What atoms are worth, plain: the table's numbers, products of worths. Conditions: none; definitions and theorems. -/
namespace Go.Pv
def oneF:Fc:=⟨1,1,0⟩
def oneW:Wo:=⟨oneF,d0,0⟩
def baseW (k:Nat):Wo:=⟨oneF,d0.set k 1,0⟩
def termsW (ws:List Wo):List (Int × Int)→Wo→Except Int Wo
 | [],w=>.ok w
 | (a,n) :: r,w=>match (if 0 ≤ a∧-99 ≤ n∧n ≤ 99 then ws[a.toNat]? else none) with
  | none=>.error 1
  | some x=>match powW x n with
   | .error e=>.error e
   | .ok p=>match mulW w p with
    | .error e=>.error e
    | .ok w'=>termsW ws r w'
def rowW (ws:List Wo) (a:AtomR):Except Int Wo:=
 if 0 ≤ a.base then (if a.base < 7 then .ok (baseW a.base.toNat) else .error 1) else
  match (if a.num.natAbs ≤ 9223372036854775807∧a.den.natAbs ≤ 9223372036854775807 then makeF a.num a.den a.ten else .error 1) with
  | .error e=>.error e
  | .ok f=>match termsW ws a.terms ⟨f,d0,0⟩ with
   | .error e=>.error e
   | .ok w=>.ok ⟨w.f,w.d,a.tag⟩
end Go.Pv
/- What atoms are worth: the table, checked; worths in their form. Conditions: none; definitions and theorems. -/
namespace Go.Pv
def worthT:List Wo:=[
 ⟨⟨1,1,0⟩,[1,0,0,0,0,0,0],0⟩,
 ⟨⟨1,1,0⟩,[0,1,0,0,0,0,0],0⟩,
 ⟨⟨1,1,0⟩,[0,0,1,0,0,0,0],0⟩,
 ⟨⟨1,1,0⟩,[0,0,0,1,0,0,0],0⟩,
 ⟨⟨1,1,0⟩,[0,0,0,0,1,0,0],0⟩,
 ⟨⟨1,1,0⟩,[0,0,0,0,0,1,0],0⟩,
 ⟨⟨1,1,0⟩,[0,0,0,0,0,0,1],0⟩,
 ⟨⟨1,1,-2⟩,[0,0,0,0,0,0,0],0⟩,
 ⟨⟨602214076,1,15⟩,[0,0,0,0,0,0,0],0⟩,
 ⟨⟨1,1,0⟩,[0,0,0,2,0,0,0],0⟩,
 ⟨⟨1,1,0⟩,[0,-1,0,0,0,0,0],0⟩,
 ⟨⟨1,1,3⟩,[1,-2,1,0,0,0,0],0⟩,
 ⟨⟨1,1,3⟩,[-1,-2,1,0,0,0,0],0⟩,
 ⟨⟨1,1,3⟩,[2,-2,1,0,0,0,0],0⟩,
 ⟨⟨1,1,3⟩,[2,-3,1,0,0,0,0],0⟩,
 ⟨⟨1,1,0⟩,[0,-1,0,0,0,1,0],0⟩,
 ⟨⟨1,1,3⟩,[2,-2,1,0,0,-1,0],0⟩,
 ⟨⟨1,1,-3⟩,[-2,2,-1,0,0,2,0],0⟩,
 ⟨⟨1,1,3⟩,[2,-1,1,0,0,-2,0],0⟩,
 ⟨⟨1,1,-3⟩,[-2,1,-1,0,0,2,0],0⟩,
 ⟨⟨1,1,3⟩,[2,-1,1,0,0,-1,0],0⟩,
 ⟨⟨1,1,0⟩,[0,0,0,0,1,0,0],1⟩,
 ⟨⟨1,1,3⟩,[0,-1,1,0,0,-1,0],0⟩,
 ⟨⟨1,1,3⟩,[2,0,1,0,0,-2,0],0⟩,
 ⟨⟨1,1,0⟩,[0,0,0,2,0,0,1],0⟩,
 ⟨⟨1,1,0⟩,[-2,0,0,2,0,0,1],0⟩,
 ⟨⟨1,1,0⟩,[0,-1,0,0,0,0,0],0⟩,
 ⟨⟨1,1,0⟩,[2,-2,0,0,0,0,0],0⟩,
 ⟨⟨1,1,0⟩,[2,-2,0,0,0,0,0],0⟩,
 ⟨⟨1,1,-3⟩,[3,0,0,0,0,0,0],0⟩,
 ⟨⟨1,1,2⟩,[2,0,0,0,0,0,0],0⟩,
 ⟨⟨6,1,1⟩,[0,1,0,0,0,0,0],0⟩,
 ⟨⟨36,1,2⟩,[0,1,0,0,0,0,0],0⟩,
 ⟨⟨864,1,2⟩,[0,1,0,0,0,0,0],0⟩,
 ⟨⟨315576,1,2⟩,[0,1,0,0,0,0,0],0⟩,
 ⟨⟨1,1,6⟩,[0,0,1,0,0,0,0],0⟩,
 ⟨⟨1,1,8⟩,[-1,-2,1,0,0,0,0],0⟩,
 ⟨⟨254,1,-4⟩,[1,0,0,0,0,0,0],0⟩,
 ⟨⟨45359237,1,-5⟩,[0,0,1,0,0,0,0],0⟩,
 ⟨⟨602214076,1,18⟩,[-3,0,0,0,0,0,0],2⟩,
 ⟨⟨1,1,0⟩,[0,0,0,0,0,0,0],3⟩,
 ⟨⟨1,1,0⟩,[0,0,0,0,0,0,0],0⟩,
 ⟨⟨602214076,1,15⟩,[0,0,0,0,0,0,0],0⟩,
 ⟨⟨602214076,1,15⟩,[0,0,0,0,0,0,0],0⟩,
 ⟨⟨602214076,1,15⟩,[0,-1,0,0,0,0,0],0⟩,
 ⟨⟨16605390666,1,-34⟩,[0,0,1,0,0,0,0],0⟩,
 ⟨⟨1602176634,1,-25⟩,[2,-2,1,0,0,0,0],0⟩,
 ⟨⟨17718451953125,1,-13⟩,[0,0,1,0,0,0,0],0⟩]
def fcB (f:Fc):Bool:=(f.num != 0 || (f.den == 1 && f.ten == 0)) && (decide (f.num.natAbs ≤ 9223372036854775807) && (decide (0 < f.den) && (decide (f.den ≤ 9223372036854775807) && (f.den % 2 != 0 && (f.den % 5 != 0 &&
 ((f.num == 0 || (f.num.natAbs % 10 != 0 && Nat.gcd f.num.natAbs f.den == 1)) && (decide (-1000 ≤ f.ten) && decide (f.ten ≤ 1000))))))))
theorem fcB_ok {f:Fc} (h:fcB f = true):FcOk f:=by
 unfold fcB at h
 simp only [Bool.and_eq_true,Bool.or_eq_true,bne_iff_ne,beq_iff_eq,decide_eq_true_eq] at h
 obtain ⟨h1,h2,h3,h4,h5,h6,h7,h8,h9⟩:=h
 exact ⟨fun h0=>h1.resolve_left (fun h=>h h0),h2,h3,h4,h5,h6,fun h0=>(h7.resolve_left h0).1,fun h0=>(h7.resolve_left h0).2,h8,h9⟩
def woB (w:Wo):Bool:=fcB w.f && (w.d.length == 7 && (dOk w.d && (decide (0 ≤ w.tag) && decide (w.tag ≤ 99))))
theorem woB_ok {w:Wo} (h:woB w = true):WoOk w:=by
 unfold woB at h
 simp only [Bool.and_eq_true,beq_iff_eq,decide_eq_true_eq] at h
 exact ⟨fcB_ok h.1,h.2.1,h.2.2.1,h.2.2.2.1,h.2.2.2.2⟩
def sameW:Except Int Wo→Wo→Bool
 | .ok w,v=>decide (w = v)
 | .error _,_=>false
theorem sameW_eq {r:Except Int Wo} {v:Wo} (h:sameW r v = true):r = .ok v:=by
 cases r with
 | ok w=>rw [of_decide_eq_true h]
 | error e=>cases h
def checkT:Bool:=atomsT.zipIdx.all fun p=>sameW (rowW (worthT.take p.2) p.1) (worthT.getD p.2 oneW) && (woB (worthT.getD p.2 oneW) && (worthT.getD p.2 oneW).f.num != 0)
theorem checkT_ok:checkT = true:=by decide +kernel
theorem worthT_len:worthT.length = 48:=rfl
theorem atomsT_len:atomsT.length = 48:=rfl
theorem row_at {i:Nat} (h:i < atomsT.length):rowW (worthT.take i) atomsT[i] = .ok (worthT.getD i oneW)∧WoOk (worthT.getD i oneW)∧(worthT.getD i oneW).f.num ≠ 0:=by
 have hc:=List.all_eq_true.1 checkT_ok (atomsT[i],i) (by
  rw [List.mem_zipIdx_iff_getElem?]
  exact List.getElem?_eq_getElem h)
 simp only [Bool.and_eq_true,bne_iff_ne] at hc
 exact ⟨sameW_eq hc.1,woB_ok hc.2.1,hc.2.2⟩
theorem overE_ok {x:Lo} (hx:LoOk x) {ten:Int} {f:Fc} (h:overE (formL x ten) = .ok f):FcOk f∧f.num ≠ 0:=by
 cases hf:formL x ten with
 | none=>rw [hf] at h; cases h
 | some g=>rw [hf] at h; cases h; exact formL_ok hx hf
theorem prodL_ok {x y:Lo} (hx:LoOk x) (hy:LoOk y) {ten:Int} {f:Fc} (h:prodL x y ten = .ok f):FcOk f∧f.num ≠ 0:=by
 unfold prodL at h
 cases hz:timesL x y with
 | none=>rw [hz] at h; cases h
 | some z=>rw [hz] at h; exact overE_ok (timesL_ok hx hy hz) h
theorem zeroF_ok:FcOk ⟨0,1,0⟩:=fcB_ok rfl
theorem oneF_ok:FcOk oneF:=fcB_ok rfl
theorem lo_ok {a:Fc} (ha:FcOk a) (h:a.num ≠ 0):LoOk (loosen a.num a.den):=(loosen_ok h (by have:=ha.d0; omega) ha.nt (by have:=ha.dt; omega)).1
theorem mulF_ok {a b f:Fc} (ha:FcOk a) (hb:FcOk b) (h:mulF a b = .ok f):FcOk f:=by
 unfold mulF at h
 split at h
 ·cases h; exact zeroF_ok
 ·rename_i hn
  exact (prodL_ok (lo_ok ha (fun h=>hn (.inl h))) (lo_ok hb (fun h=>hn (.inr h))) h).1
theorem divF_ok {a b f:Fc} (ha:FcOk a) (hb:FcOk b) (h:divF a b = .ok f):FcOk f:=by
 unfold divF at h
 split at h
 ·cases h
 ·rename_i hn
  split at h
  ·cases h; exact ha
  ·rename_i hn'
   exact (prodL_ok (lo_ok ha hn') (invL_ok (lo_ok hb hn)) h).1
theorem powF_ok {a f:Fc} {n:Int} (ha:FcOk a) (h:powF a n = .ok f):FcOk f:=by
 unfold powF at h
 split at h
 ·cases h
 ·split at h
  ·cases h; exact oneF_ok
  ·split at h
   ·cases h; exact ha
   ·rename_i h0
    split at h
    ·cases h
    ·rename_i y hy
     exact (overE_ok (powL_ok (powLo_ok ha h0 n).1 hy) h).1
theorem makeF_ok {n d t:Int} {f:Fc} (hn:n.natAbs ≤ 9223372036854775807) (hd:d.natAbs ≤ 9223372036854775807) (h:makeF n d t = .ok f):FcOk f:=by
 unfold makeF at h
 split at h
 ·cases h
 ·rename_i h0
  split at h
  ·cases h; exact zeroF_ok
  ·rename_i h1
   split at h
   ·cases h
   ·exact (overE_ok (loosen_ok h1 h0 hn hd).1 h).1
theorem putR_wo {r:Except Int Fc} {d:List Int} {w:Wo} {tg:Bool} (hd:d.length = 7) (hr:∀ f,r = .ok f→FcOk f) (h:putR tg r d = .ok w):WoOk w:=by
 obtain ⟨_,h2,h3,h4,h5⟩:=putR_ok h
 exact ⟨hr _ h2,by rw [h3]; exact hd,by rw [h3]; exact h4,by omega,by omega⟩
theorem mulW_ok {a b w:Wo} (ha:WoOk a) (hb:WoOk b) (h:mulW a b = .ok w):WoOk w:=
 putR_wo (by unfold addD; rw [List.length_zipWith,ha.len,hb.len]; rfl) (fun f hf=>mulF_ok ha.f hb.f hf) h
theorem divW_ok {a b w:Wo} (ha:WoOk a) (hb:WoOk b) (h:divW a b = .ok w):WoOk w:=
 putR_wo (by unfold subD; rw [List.length_zipWith,ha.len,hb.len]; rfl) (fun f hf=>divF_ok ha.f hb.f hf) h
theorem powW_ok {a w:Wo} {n:Int} (ha:WoOk a) (h:powW a n = .ok w):WoOk w:=
 putR_wo (by unfold mulD; rw [List.length_map,ha.len]) (fun f hf=>powF_ok ha.f hf) h
theorem ofW_ok {n:Int} {w:Wo} (hn:n.natAbs ≤ 9223372036854775807) (h:ofW n = .ok w):WoOk w:=by
 rw [ofW_put] at h
 exact putR_wo rfl (fun f hf=>makeF_ok hn (by decide) hf) h
theorem oneW_ok:WoOk oneW:=woB_ok rfl
end Go.Pv
/- What the program says atoms are worth. Conditions: the functions' codes; theorems. -/
namespace Go.Pv
variable {E:Env}
theorem wo_len {ws:List Wo} (hw:∀ w ∈ ws,WoOk w):(ws.flatMap Wo.C).length = ws.length * 11:=by
 induction ws with
 | nil=>rfl
 | cons w ws ih=>
  rw [List.flatMap_cons,List.length_append,ih (fun x hx=>hw x (List.mem_cons_of_mem _ hx)),Wo.C_len (hw w List.mem_cons_self).len,List.length_cons]
  omega
theorem wo_drop {ws:List Wo} (hw:∀ w ∈ ws,WoOk w):∀ {i:Nat} (hi:i < ws.length),((ws.flatMap Wo.C).drop (i * 11)).take 11 = ws[i].C:=by
 induction ws with
 | nil=>intro i hi; simp at hi
 | cons w ws ih=>
  intro i hi
  have l:=Wo.C_len (hw w List.mem_cons_self).len
  cases i with
  | zero=>
   simp only [List.flatMap_cons,Nat.zero_mul,List.drop_zero,List.getElem_cons_zero]
   rw [List.take_append_of_le_length (by omega),List.take_of_length_le (by omega)]
  | succ i=>
   rw [List.flatMap_cons,Nat.add_mul,Nat.one_mul,Nat.add_comm,← List.drop_drop,List.drop_left' l]
   exact ih (fun x hx=>hw x (List.mem_cons_of_mem _ hx)) (by simpa using hi)
structure Keep1 (b:Nat) (h h':AHeap):Prop where
 old:∀ j,j < h.blks.length→j ≠ b→h'.bl j = h.bl j
 len:h.blks.length ≤ h'.blks.length
 toks:h'.toks = h.toks
 ro:h'.ro = h.ro
 rot:h'.rot = h.rot
theorem Keep1.refl (b:Nat) (h:AHeap):Keep1 b h h:=⟨fun _ _ _=>rfl,Nat.le_refl _,rfl,rfl,rfl⟩
theorem Keep1.trans {b:Nat} {x y z:AHeap} (p:Keep1 b x y) (q:Keep1 b y z):Keep1 b x z:=
 ⟨fun j hj hb=>(q.old j (Nat.lt_of_lt_of_le hj p.len) hb).trans (p.old j hj hb),Nat.le_trans p.len q.len,q.toks.trans p.toks,q.ro.trans p.ro,q.rot.trans p.rot⟩
theorem rsW_ok {w:Wo}:rsW (.ok w) = .tuple [.agg w.C,.int .i64 0]:=rfl
set_option maxRecDepth 20000 in
set_option maxHeartbeats 1000000 in
theorem inner304 (H:Has 304 E) {ws:List Wo} (hws:∀ w ∈ ws,WoOk w) {own owt:Own} {b8 b9:Nat} {t19 t20 t21:AV} {ts:List (Int × Int)} (hts:ts.length < 1000):∀ (r:List (Int × Int)) (i:Nat) (w w':Wo) (h:AHeap),ts.drop i = r→WoOk w→termsW ws r w = .ok w'→h.ro = 0→h.bl b9 = some (.cells w.C) →
  ∃ h',(∀ F,mask k304_0 F = s304_0 (.vs own ws.length (ws.flatMap Wo.C)) (.ref b8 0) (.ref b9 0) (.int .i64 0) t19 t20 t21 (.vs owt ts.length (ts.flatMap termCs)) (.int .i64 ts.length) (.int .i64 i) →
   EvCode E (.loop k304_0 l304_0) F h = some (.exit 2,x304_2 (.vs own ws.length (ws.flatMap Wo.C)) (.ref b8 0) (.ref b9 0) (.int .i64 0) t19 t20 t21,h'))∧h'.bl b9 = some (.cells w'.C)∧Keep1 b9 h h'∧WoOk w':=by
 intro r
 induction r with
 | nil=>
  intro i w w' h hr hw ht hro hb
  have hi:ts.length ≤ i:=by simpa using hr
  cases ht
  refine ⟨h,fun F hF=>?_,hb,Keep1.refl _ _,hw⟩
  rw [EvCode_loop,hF]
  have:¬ (i:Int) < ts.length:=by omega
  simp [l304_0,s304_0,x304_2,this]
 | cons p r ih=>
  intro i w w' h hr hw ht hro hb
  obtain ⟨a,n⟩:=p
  have hi:i < ts.length:=by
   rcases Nat.lt_or_ge i ts.length with h' | h'
   ·exact h'
   ·rw [List.drop_eq_nil_of_le h'] at hr; cases hr
  have hp:ts[i] = (a,n):=by
   rw [List.drop_eq_getElem_cons hi] at hr
   exact (List.cons.inj hr).1
  have hr':ts.drop (i + 1) = r:=by
   rw [List.drop_eq_getElem_cons hi] at hr
   exact (List.cons.inj hr).2
  simp only [termsW] at ht
  split at ht
  ·cases ht
  ·rename_i x hx
   split at hx
   ·rename_i hc
    obtain ⟨a0,n1,n2⟩:=hc
    split at ht
    ·cases ht
    ·rename_i pw hpw
     split at ht
     ·cases ht
     ·rename_i w1 hw1
      obtain ⟨hal,hax⟩:=List.getElem?_eq_some_iff.1 hx
      have hxo:WoOk x:=hws x (by rw [← hax]; exact List.getElem_mem hal)
      have hpo:=powW_ok hxo hpw
      have h1o:=mulW_ok hw hpo hw1
      have lt9:=blk_lt hb
      have q1:=powW_eq (H.to 303) hxo n1 n2
      have q2:=mulW_eq (H.to 295) hw hpo
      rw [hpw,rsW_ok] at q1
      rw [hw1,rsW_ok] at q2
      have hrow:=wo_drop hws hal
      rw [hax] at hrow
      have hterm:((ts.flatMap termCs).drop (i * 2)).take 2 = [.int .i64 a,.int .i64 n]:=by
       rw [fm_el (fun t=>by simp [termCs]) hi,hp]; rfl
      have lx:=Wo.C_len hxo.len
      have lp:=Wo.C_len hpo.len
      have lw:=Wo.C_len hw.len
      have l1:=Wo.C_len h1o.len
      have hwl:=wo_len hws
      have htl:(ts.flatMap termCs).length = ts.length * 2:=fm_len (fun t=>by simp [termCs]) ts
      have cw1:=Wo.C_all w1
      have cp:=Wo.C_all pw
      have tp:pw.C.take 11 = pw.C:=List.take_of_length_le (by omega)
      have tw:w.C.take 11 = w.C:=List.take_of_length_le (by omega)
      have sp:setCells 0 pw.C [.int .i64 0,.int .i64 0,.int .i64 0,.int .i64 0,.int .i64 0,.int .i64 0,.int .i64 0,.int .i64 0,.int .i64 0,.int .i64 0,.int .i64 0] = pw.C:=setCells_full (by rw [lp]; rfl)
      have sw:setCells 0 w1.C w.C = w1.C:=setCells_full (by rw [l1,lw])
      obtain ⟨h',g1,g2,g3,g4⟩:=ih (i + 1) w1 w' (((h.push (.cells [.int .i64 a,.int .i64 n])).push (.cells pw.C)).setBlk b9 (.cells w1.C)) hr' h1o ht (by simp [hro]) (by
       have k1:¬ b9 = h.blks.length:=by omega
       have k2:¬ b9 = h.blks.length + 1:=by omega
       simp [k1,k2,hb])
      have gk:Keep1 b9 h (((h.push (.cells [.int .i64 a,.int .i64 n])).push (.cells pw.C)).setBlk b9 (.cells w1.C)):=by
       refine ⟨fun j hj hb'=>?_,by rw [blks_set_length,blks_push_length,blks_push_length]; omega,rfl,rfl,rfl⟩
       have k1:¬ j = h.blks.length:=by omega
       have k2:¬ j = h.blks.length + 1:=by omega
       have k3:¬ b9 = j:=fun e=>hb' e.symm
       simp [k1,k2,k3]
      refine ⟨h',fun F hF=>?_,g2,gk.trans g3,g4⟩
      ·have k1:¬ b9 = h.blks.length:=by omega
       have k2:¬ b9 = h.blks.length + 1:=by omega
       have e1:(i:Int) < ts.length:=by omega
       have e2:IntKind.i64.wrap ((i:Int) + 1) = ((i + 1:Nat):Int):=w64
       have e3:a < (ws.length:Int):=by omega
       have e4:a.toNat * 11 < ws.length * 11:=by omega
       have e5:i * 2 < ts.length * 2:=by omega
       have e6:11 ≤ ws.length * 11 - a.toNat * 11:=by omega
       have e7:2 ≤ ts.length * 2 - i * 2:=by omega
       rw [EvCode_loop,hF]
       generalize EvCode E (.loop k304_0 l304_0) = lp at g1 ⊢
       simp only [Wo.A] at q1 q2
       generalize pw.C = PC at *
       generalize w1.C = W1 at *
       generalize w.C = WC at *
       generalize x.C = XC at *
       generalize ws.flatMap Wo.C = WS at *
       generalize ts.flatMap termCs = TS at *
       simp [l304_0,s304_0,e1,e2,e3,e4,e5,e6,e7,k1,k2,a0,hro,hb,hterm,hrow,htl,hwl,q1,q2,lp,lw,l1,tp,tw,sp,sw,cw1,cp,EvCall_closed H.c295 rfl,push_setk]
       exact g1 _ (by simp [s304_0])
   ·cases hx
end Go.Pv
