/- A part of the proof: functions of the program in the evaluator's code, and what they come to. Conditions: none; definitions and theorems that the statement's proof uses. -/
import Derived.Test.YteiaohbhlapklaaGreatDoorSettPcNum1
/- The table of units and of prefixes, by program. Conditions: none; definitions. -/
namespace Go.Pv
def atomsT:List AtomR:=[
 ⟨[109],[77],[109],[77],[109],true,0,0,1,1,0,[]⟩,
 ⟨[115],[83],[115],[83],[115],true,0,1,1,1,0,[]⟩,
 ⟨[103],[71],[103],[71],[103],true,0,2,1,1,0,[]⟩,
 ⟨[114,97,100],[82,65,68],[114,97,100],[82,65,68],[114,97,100],true,0,3,1,1,0,[]⟩,
 ⟨[75],[75],[75],[75],[75],true,0,4,1,1,0,[]⟩,
 ⟨[67],[67],[67],[67],[67],true,0,5,1,1,0,[]⟩,
 ⟨[99,100],[67,68],[99,100],[67,68],[99,100],true,0,6,1,1,0,[]⟩,
 ⟨[37],[37],[37],[],[37],false,0,-1,1,1,-2,[]⟩,
 ⟨[109,111,108],[77,79,76],[109,111,108],[77,79,76],[109,111,108],true,0,-1,602214076,1,15,[]⟩,
 ⟨[115,114],[83,82],[115,114],[83,82],[115,114],true,0,-1,1,1,0,[(3,2)]⟩,
 ⟨[72,122],[72,90],[72,122],[72,90],[72,122],true,0,-1,1,1,0,[(1,-1)]⟩,
 ⟨[78],[78],[78],[78],[78],true,0,-1,1,1,3,[(2,1),(0,1),(1,-2)]⟩,
 ⟨[80,97],[80,65,76],[80,97],[80,65],[80,97],true,0,-1,1,1,0,[(11,1),(0,-2)]⟩,
 ⟨[74],[74],[74],[74],[74],true,0,-1,1,1,0,[(11,1),(0,1)]⟩,
 ⟨[87],[87],[87],[87],[87],true,0,-1,1,1,0,[(13,1),(1,-1)]⟩,
 ⟨[65],[65],[65],[65],[65],true,0,-1,1,1,0,[(5,1),(1,-1)]⟩,
 ⟨[86],[86],[86],[86],[86],true,0,-1,1,1,0,[(13,1),(5,-1)]⟩,
 ⟨[70],[70],[70],[70],[70],true,0,-1,1,1,0,[(5,1),(16,-1)]⟩,
 ⟨[79,104,109],[79,72,77],[79,104,109],[79,72,77],[111,104,109],true,0,-1,1,1,0,[(16,1),(15,-1)]⟩,
 ⟨[83],[83,73,69],[83],[83,73,69],[83],true,0,-1,1,1,0,[(18,-1)]⟩,
 ⟨[87,98],[87,66],[87,98],[87,66],[87,98],true,0,-1,1,1,0,[(16,1),(1,1)]⟩,
 ⟨[67,101,108],[67,69,76],[91,111,67,93],[67,69,76],[],true,1,-1,1,1,0,[(4,1)]⟩,
 ⟨[84],[84],[84],[84],[84],true,0,-1,1,1,0,[(20,1),(0,-2)]⟩,
 ⟨[72],[72],[72],[72],[72],true,0,-1,1,1,0,[(20,1),(15,-1)]⟩,
 ⟨[108,109],[76,77],[108,109],[76,77],[108,109],true,0,-1,1,1,0,[(6,1),(9,1)]⟩,
 ⟨[108,120],[76,88],[108,120],[76,88],[108,120],true,0,-1,1,1,0,[(24,1),(0,-2)]⟩,
 ⟨[66,113],[66,81],[66,113],[66,81],[66,113],true,0,-1,1,1,0,[(1,-1)]⟩,
 ⟨[71,121],[71,89],[71,121],[71,89],[71,121],true,0,-1,1,1,-3,[(13,1),(2,-1)]⟩,
 ⟨[83,118],[83,86],[83,118],[83,86],[83,118],true,0,-1,1,1,-3,[(13,1),(2,-1)]⟩,
 ⟨[108],[76],[76],[76],[108],true,0,-1,1,1,-3,[(0,3)]⟩,
 ⟨[97,114],[65,82],[97],[65,82,69],[97],true,0,-1,1,1,2,[(0,2)]⟩,
 ⟨[109,105,110],[77,73,78],[109,105,110],[77,73,78],[109,105,110],false,0,-1,6,1,1,[(1,1)]⟩,
 ⟨[104],[72,82],[104],[72,82],[104,114],false,0,-1,36,1,2,[(1,1)]⟩,
 ⟨[100],[68],[100],[68],[100],false,0,-1,24,1,0,[(32,1)]⟩,
 ⟨[97],[65,78,78],[121,114],[65,78,78],[121,114],false,0,-1,36525,1,-2,[(33,1)]⟩,
 ⟨[116],[84,78,69],[116],[84,78,69],[116],true,0,-1,1,1,6,[(2,1)]⟩,
 ⟨[98,97,114],[66,65,82],[98,97,114],[66,65,82],[98,97,114],true,0,-1,1,1,5,[(12,1)]⟩,
 ⟨[91,105,110,95,105,93],[91,73,78,95,73,93],[105,110],[73,78],[105,110],false,0,-1,254,1,-4,[(0,1)]⟩,
 ⟨[91,108,98,95,97,118,93],[91,76,66,95,65,86,93],[108,98],[76,66],[108,98],false,0,-1,45359237,1,-5,[(2,1)]⟩,
 ⟨[91,112,72,93],[91,80,72,93],[112,72],[],[],false,2,-1,1,1,0,[(8,1),(29,-1)]⟩,
 ⟨[66],[66],[66],[],[],true,3,-1,1,1,0,[]⟩,
 ⟨[91,105,85,93],[91,73,85,93],[73,85],[],[73,85],true,0,-1,1,1,0,[]⟩,
 ⟨[101,113],[69,81],[101,113],[69,81],[101,113],true,0,-1,1,1,0,[(8,1)]⟩,
 ⟨[111,115,109],[79,83,77],[111,115,109],[79,83,77],[111,115,109],true,0,-1,1,1,0,[(8,1)]⟩,
 ⟨[107,97,116],[75,65,84],[107,97,116],[75,65,84],[107,97,116],true,0,-1,1,1,0,[(8,1),(1,-1)]⟩,
 ⟨[117],[65,77,85],[117],[85],[117],true,0,-1,16605390666,1,-34,[(2,1)]⟩,
 ⟨[101,86],[69,86],[101,86],[69,86],[101,86],true,0,-1,1602176634,1,-28,[(13,1)]⟩,
 ⟨[91,100,114,95,97,118,93],[91,68,82,95,65,86,93],[100,114],[],[100,114],false,0,-1,1,256,0,[(38,1)]⟩]
def prefsT:List PrefR:=[
 ⟨[89],[89,65],[89],[],[89],24⟩,
 ⟨[90],[90,65],[90],[],[90],21⟩,
 ⟨[69],[69,88],[69],[69],[69],18⟩,
 ⟨[80],[80,84],[80],[80,69],[80],15⟩,
 ⟨[84],[84,82],[84],[84],[84],12⟩,
 ⟨[71],[71,65],[71],[71],[71],9⟩,
 ⟨[77],[77,65],[77],[77,65],[77],6⟩,
 ⟨[107],[75],[107],[75],[107],3⟩,
 ⟨[104],[72],[104],[72],[104],2⟩,
 ⟨[100,97],[68,65],[100,97],[68,65],[100,97],1⟩,
 ⟨[100],[68],[100],[68],[100],-1⟩,
 ⟨[99],[67],[99],[67],[99],-2⟩,
 ⟨[109],[77],[109],[77],[109],-3⟩,
 ⟨[117],[85],[117],[85],[117],-6⟩,
 ⟨[110],[78],[110],[78],[110],-9⟩,
 ⟨[112],[80],[112],[80],[112],-12⟩,
 ⟨[102],[70],[102],[70],[102],-15⟩,
 ⟨[97],[65],[97],[65],[97],-18⟩,
 ⟨[122],[90,79],[122],[],[122],-21⟩,
 ⟨[121],[89,79],[121],[],[121],-24⟩]
end Go.Pv
/- What the functions of a book of symbols come to: its atom, what is behind a prefix, find. Conditions: the functions' codes; theorems. -/
namespace Go.Pv
variable {E:Env}
structure Tb where
 L:List AtomR
 Q:List PrefR
 o1:Own
 o2:Own
 ot:Own
def Tb.A (B:Tb):AV:=.vs B.o1 B.L.length (B.L.flatMap (acs B.ot))
def Tb.P (B:Tb):AV:=.vs B.o2 B.Q.length (B.Q.flatMap PrefR.cells)
def Tb.V (B:Tb):AV:=.agg [B.A,B.P]
def Tb.bookV (B:Tb) (n:Nat):AV:=.agg [B.A,B.P,.int .i64 ((n:Int) + 1)]
structure Tb.Ok (B:Tb):Prop where
 len:B.L.length < 1000
 plen:B.Q.length < 1000
 o1:OwnOk B.o1
 o2:OwnOk B.o2
 ot:OwnOk B.ot
variable {B:Tb} {n:Nat}
theorem Tb.A_shut (ok:B.Ok):shut 0 0 B.A = some B.A:=shut_vs ok.o1 (shutL_flat (acs_shut ok.ot) _)
theorem Tb.P_shut (ok:B.Ok):shut 0 0 B.P = some B.P:=shut_vs ok.o2 (shutL_flat PrefR.shut _)
theorem Tb.A_cell:B.A.isCell = true:=rfl
theorem Tb.P_cell:B.P.isCell = true:=rfl
def atomIdx (n:Nat) (L:List AtomR) (s:List UInt8):Int:=if s.isEmpty then -1 else idxV (fun a=>a.code n == s) L
theorem bookAtom_eq (H:Has 39 E) (ok:B.Ok) (hn:n < 5) (s:List UInt8):EvClosed E (.fn (.func 39) [] []) [B.bookV n,.str s] = some (.int .i64 (atomIdx n B.L s)):=by
 rw [EvClosed_eq H.c39 rfl (vs:=[B.bookV n,.str s]) (by simp [Tb.bookV,Tb.A_shut ok,Tb.P_shut ok]),EvFn_eq]
 have hidx:=indexFunc_eq (E:=E) (H.to 59) (cells:=acs B.ot) (p:=fun a=>a.code n == s) (f:=.fn (.func 60) [] [.ref 0 0,.ref 1 0])
  (h:=(heap0.push (.cells [B.A,B.P,.int .i64 ((n:Int) + 1)])).push (.cells [.str s])) (L:=B.L)
  (acs_len B.ot) (by have:=ok.len; omega) (own:=B.o1) (fun a _=>atom1_eq (H.to 60) B.ot a hn (A:=B.A) (P:=B.P) (by simp) (by simp))
 rw [show (AV.vs B.o1 B.L.length (B.L.flatMap (acs B.ot))) = B.A from rfl] at hidx
 cases hs:s.isEmpty
 ·simp [f39,start,Tb.bookV,hs,atomIdx,hidx]
 ·simp [f39,start,Tb.bookV,hs,atomIdx]
theorem atomIdx_range (L:List AtomR) (s:List UInt8):atomIdx n L s = -1∨∃ i:Nat,i < L.length∧atomIdx n L s = i:=by
 unfold atomIdx
 split
 ·exact .inl rfl
 ·exact idxV_range _ _
def restOf (n:Nat) (L:List AtomR) (s:List UInt8) (p:PrefR):Int × Bool:=
 let c:=cutP s (p.code n)
 if !c.2 || c.1 == s then (-1,false)
 else (atomIdx n L c.1,atomIdx n L c.1 != -1 && ((L[(atomIdx n L c.1).toNat]?).map (·.metric)).getD false)
theorem PrefR.at_ (p:PrefR) (hn:n < 5):(p.cells.drop n).take 1 = [.str (p.code n)]:=by
 have hn5:n = 0∨n = 1∨n = 2∨n = 3∨n = 4:=by omega
 rcases hn5 with rfl | rfl | rfl | rfl | rfl <;> rfl
theorem acs_at (o:Own) (a:AtomR) (hn:n < 5):((acs o a).drop n).take 1 = [.str (a.code n)]:=by
 have hn5:n = 0∨n = 1∨n = 2∨n = 3∨n = 4:=by omega
 rcases hn5 with rfl | rfl | rfl | rfl | rfl <;> rfl
theorem rest_ways (L:List AtomR) (s c:List UInt8):(cutP s c).2 = false∨((cutP s c).2 = true∧((cutP s c).1 == s) = true)∨((cutP s c).2 = true∧((cutP s c).1 == s) = false∧atomIdx n L (cutP s c).1 = -1) ∨
  ∃ (i:Nat),(cutP s c).2 = true∧((cutP s c).1 == s) = false∧atomIdx n L (cutP s c).1 = i∧i < L.length:=by
 cases h3:(cutP s c).2
 ·exact .inl rfl
 ·cases h4:((cutP s c).1 == s)
  ·rcases atomIdx_range (n:=n) L (cutP s c).1 with hr | ⟨i,hi,hr⟩
   ·exact .inr (.inr (.inl ⟨rfl,rfl,hr⟩))
   ·exact .inr (.inr (.inr ⟨i,rfl,rfl,hr,hi⟩))
  ·exact .inr (.inl ⟨rfl,rfl⟩)
theorem rest_eq (H:Has 40 E) (ok:B.Ok) (hn:n < 5) (s:List UInt8) (p:PrefR) {h:AHeap} {rs rb:Nat}
  (hs:h.bl rs = some (.cells [.str s])) (hb:h.bl rb = some (.cells [B.A,B.P,.int .i64 ((n:Int) + 1)])):
  EvCall E (.fn (.func 40) [] [.ref rs 0,.ref rb 0]) [.agg p.cells] h = some (.ret (.tuple [.int .i64 (restOf n B.L s p).1,.bool (restOf n B.L s p).2]),h):=by
 rw [EvCall_reader H.c40 rfl,EvFn_eq]
 have hcut:=cutPrefix_eq (E:=E) (H.to 41) s (p.code n)
 have hatom:=bookAtom_eq (E:=E) (H.to 39) ok hn (cutP s (p.code n)).1
 simp only [Tb.bookV] at hatom
 have hw:IntKind.i64.wrap (n:Int) = n:=w64
 have hn5:(n:Int) < 5:=by omega
 have hn6:n + 1 ≤ 6:=by omega
 have hn7:n < 6:=by omega
 rcases rest_ways (n:=n) B.L s (p.code n) with h3 | ⟨h3,h4⟩ | ⟨h3,h4,h5⟩ | ⟨i,h3,h4,h5,hi⟩
 ·simp [f40,start,hs,hb,blk_ne hs,blk_ne hb,hw,hn5,hn6,PrefR.at_ p hn,PrefR.len,hcut,h3,restOf]
 ·simp [f40,start,hs,hb,blk_ne hs,blk_ne hb,hw,hn5,hn6,PrefR.at_ p hn,PrefR.len,hcut,h3,h4,restOf]
 ·rw [h5] at hatom
  simp [f40,start,hs,hb,blk_ne hs,blk_ne hb,hw,hn5,hn6,PrefR.at_ p hn,PrefR.len,hcut,EvCall_closed H.c39 rfl,h3,h4,restOf,hatom,h5]
 ·rw [h5] at hatom
  have hne:((i:Int) != -1) = true:=by simp
  have hmet:=fm_at (acs_len B.ot) hi (show 5 + 1 ≤ 12 by omega)
  rw [show ((acs B.ot B.L[i]).drop 5).take 1 = [.bool B.L[i].metric] from rfl] at hmet
  simp only [Tb.A] at hatom
  simp [f40,start,hs,hb,blk_ne hs,blk_ne hb,hw,hn5,hn6,PrefR.at_ p hn,PrefR.len,hcut,EvCall_closed H.c39 rfl,h3,h4,restOf,hatom,h5,hne,hi,Tb.A,fm_len (acs_len B.ot),lt_at hi,le_off hi,lt_off hi,hmet]
def firstP (n:Nat) (L:List AtomR) (s:List UInt8):List PrefR→Nat→Int × Int × Bool
 | [],_=>(-1,-1,false)
 | p :: ps,i=>if (restOf n L s p).2 then (i,(restOf n L s p).1,true) else firstP n L s ps (i + 1)
def findB (n:Nat) (L:List AtomR) (Q:List PrefR) (s:List UInt8):Int × Int × Bool:=
 if atomIdx n L s != -1 then (-1,atomIdx n L s,true) else firstP n L s Q 0
theorem find_loop (H:Has 26 E) (ok:B.Ok) (hn:n < 5) (s:List UInt8):∀ (m i:Nat),i + m = B.Q.length→∀ (h:AHeap) F,h.bl 0 = some (.cells [B.A,B.P,.int .i64 ((n:Int) + 1)])→h.bl 1 = some (.cells [.str s])→h.ro = 0 →
  mask k26_0 F = s26_0 (.int .i64 (-1)) (.int .i64 (-1)) (.bool false) (.fn (.func 40) [] [.ref 1 0,.ref 0 0]) B.P (.int .i64 B.Q.length) (.int .i64 i) →
   ∃ h',EvCode E (.loop k26_0 l26_0) F h = some (.exit 0,x26_0 (.int .i64 (firstP n B.L s (B.Q.drop i) i).1) (.int .i64 (firstP n B.L s (B.Q.drop i) i).2.1) (.bool (firstP n B.L s (B.Q.drop i) i).2.2),h')
 | 0,i,hi,h,F,h0,h1,hro,hF=>by
  have hi':i = B.Q.length:=by omega
  subst hi'
  refine ⟨h,?_⟩
  rw [EvCode_loop,hF]
  simp [l26_0,s26_0,x26_0,firstP]
 | m + 1,i,hi,h,F,h0,h1,hro,hF=>by
  have hlt:i < B.Q.length:=by omega
  have hpl:=ok.plen
  have hne0:=blk_ne h0
  have hne1:=blk_ne h1
  have hr:=rest_eq (E:=E) (H.to 40) ok hn s B.Q[i] (h:=h.push (.cells B.Q[i].cells)) (rs:=1) (rb:=0) (by simp [hne1,h1]) (by simp [hne0,h0])
  have ih:=find_loop H ok hn s m (i + 1) (by omega) (h.push (.cells B.Q[i].cells))
  rw [EvCode_loop,hF,List.drop_eq_getElem_cons hlt]
  generalize EvCode E (.loop k26_0 l26_0) = lp at ih ⊢
  cases hp:(restOf n B.L s B.Q[i]).2
  ·rw [hp] at hr
   simp [l26_0,s26_0,hlt,Tb.P,fm_len PrefR.len,lt_at hlt,le_at hlt,fm_el PrefR.len hlt,PrefR.len,PrefR.take,setCells_full,push_set,hro,hr,PrefR.all,w64 (n:=(i:Int) + 1),firstP,hp]
   refine ih _ ?_ ?_ ?_ ?_ <;> simp [hne0,h0,hne1,h1,hro,s26_0,Tb.P]
  ·rw [hp] at hr
   simp [l26_0,s26_0,hlt,Tb.P,fm_len PrefR.len,lt_at hlt,le_at hlt,fm_el PrefR.len hlt,PrefR.len,PrefR.take,setCells_full,push_set,hro,hr,PrefR.all,firstP,hp,x26_0]
theorem find_eq (H:Has 26 E) (ok:B.Ok) (hn:n < 5) (s:List UInt8):EvClosed E (.fn (.func 26) [] []) [B.bookV n,.str s] =
  some (.tuple [.int .i64 (findB n B.L B.Q s).1,.int .i64 (findB n B.L B.Q s).2.1,.bool (findB n B.L B.Q s).2.2]):=by
 rw [EvClosed_eq H.c26 rfl (vs:=[B.bookV n,.str s]) (by simp [Tb.bookV,Tb.A_shut ok,Tb.P_shut ok]),EvFn_eq]
 have hatom:=bookAtom_eq (E:=E) (H.to 39) ok hn s
 simp only [Tb.bookV,Tb.P] at hatom
 cases ha:(atomIdx n B.L s != -1)
 ·have ha2:atomIdx n B.L s = -1:=by simpa using ha
  rw [ha2] at hatom
  have hl:=find_loop H ok hn s B.Q.length 0 (by omega)
  simp [f26,start,Tb.bookV,Tb.P,EvCall_closed H.c39 rfl,hatom]
  generalize hg:EvCode E (SCode.loop k26_0 l26_0) _ _ = r
  obtain ⟨h',rfl⟩:=via hg (hl _ _ (by simp [Tb.P]) (by simp) (by simp) (by simp [s26_0,Tb.P]))
  simp [x26_0,findB,ha]
 ·simp [f26,start,Tb.bookV,Tb.P,EvCall_closed H.c39 rfl,hatom,ha,findB]
end Go.Pv
/- What opening a notation's book comes to, and what the reference's functions on symbols: begins, atom, find. Conditions: the functions' codes; theorems. -/
namespace Go.Pv
variable {E:Env} {B:Tb} {n:Nat}
theorem open_eq (H:Has 25 E) (ok:B.Ok) (h38:EvClosed E (.fn (.func 38) [] []) [] = some B.V) (x:Int):
  EvClosed E (.fn (.func 25) [] []) [.int .i64 x] = some (.tuple [.agg [B.A,B.P,.int .i64 x],.bool (decide (1 ≤ x) && decide (x ≤ 5))]):=by
 rw [EvClosed_eq H.c25 rfl (vs:=[.int .i64 x]) (by simp),EvFn_eq]
 simp only [Tb.V] at h38
 have h1:=Tb.A_shut ok
 have h2:=Tb.P_shut ok
 cases h3:decide (1 ≤ x) <;> simp [f25,start,EvCall_closed H.c38 rfl,h38,Tb.A_cell,Tb.P_cell,push_setk,h1,h2,h3]
theorem find13_eq (H:Has 13 E) (ok:B.Ok) (h38:EvClosed E (.fn (.func 38) [] []) [] = some B.V) (x:Int) (s:List UInt8):
  EvClosed E (.fn (.func 13) [] []) [.int .i64 x,.str s] = some (.tuple [.int .i64 (if 1 ≤ x∧x ≤ 5 then (findB (x - 1).toNat B.L B.Q s).1 else -1),.int .i64 (if 1 ≤ x∧x ≤ 5 then (findB (x - 1).toNat B.L B.Q s).2.1 else -1),.bool (decide (1 ≤ x∧x ≤ 5) && (findB (x - 1).toNat B.L B.Q s).2.2)]):=by
 rw [EvClosed_eq H.c13 rfl (vs:=[.int .i64 x,.str s]) (by simp),EvFn_eq]
 have ho:=open_eq (H.to 25) ok h38 x
 by_cases hx:1 ≤ x∧x ≤ 5
 ·obtain ⟨n,hn,rfl⟩:∃ n:Nat,n < 5∧x = (n:Int) + 1:=⟨(x - 1).toNat,by omega,by omega⟩
  have hf:=find_eq (E:=E) (H.to 26) ok hn s
  simp only [Tb.bookV] at hf
  have h1:decide (1 ≤ (n:Int) + 1) = true:=decide_eq_true (by omega)
  have h2:decide ((n:Int) + 1 ≤ 5) = true:=decide_eq_true (by omega)
  simp only [h1,h2] at ho
  have h3:(n:Int) + 1 - 1 = n:=by omega
  have h4:(n:Int) ≤ 4:=by omega
  simp [f13,start,EvCall_closed H.c25 rfl,EvCall_closed H.c26 rfl,ho,hf,hx,h3,Tb.A_cell,Tb.P_cell]
 ·have h1:(decide (1 ≤ x) && decide (x ≤ 5)) = false:=by
   cases h:(decide (1 ≤ x) && decide (x ≤ 5))
   ·rfl
   ·simp at h; exact absurd h hx
  rw [h1] at ho
  simp [f13,start,EvCall_closed H.c25 rfl,ho,hx,Tb.A_cell,Tb.P_cell]
def beginsB (s p:List UInt8):Bool:=!p.isEmpty && (decide (p.length < s.length) && (s.take p.length == p))
theorem begins_eq (H:Has 87 E) (s p:List UInt8):EvClosed E (.fn (.func 87) [] []) [.str s,.str p] = some (.bool (beginsB s p)):=by
 rw [EvClosed_eq H.c87 rfl (vs:=[.str s,.str p]) (by simp),EvFn_eq]
 cases h1:p.isEmpty
 ·cases h2:decide (p.length < s.length)
  ·have h2':¬ p.length < s.length:=by simpa using h2
   simp [f87,start,h1,h2',beginsB]
  ·have h2':p.length < s.length:=by simpa using h2
   have h3:p.length ≤ s.length:=by omega
   simp [f87,start,h1,h2',h3,beginsB]
 ·simp [f87,start,h1,beginsB]
theorem code_at (o:Own) {L:List AtomR} (hn:n < 5) {i:Nat} (hi:i < L.length):((L.flatMap (acs o)).drop (i * 12 + n)).take 1 = [.str (L[i].code n)]:=by
 rw [fm_at (acs_len o) hi (by omega),acs_at o _ hn]
theorem pref_at {Q:List PrefR} (hn:n < 5) {i:Nat} (hi:i < Q.length):((Q.flatMap PrefR.cells).drop (i * 6 + n)).take 1 = [.str (Q[i].code n)]:=by
 rw [fm_at PrefR.len hi (by omega),PrefR.at_ _ hn]
theorem metric_at (o:Own) {L:List AtomR} {i:Nat} (hi:i < L.length):((L.flatMap (acs o)).drop (i * 12 + 5)).take 1 = [.bool L[i].metric]:=by
 rw [fm_at (acs_len o) hi (by omega)]
 rfl
theorem refAtom_loop (ok:B.Ok) (hn:n < 5) (s:List UInt8) {h:AHeap} (hb:h.bl 0 = some (.cells [B.A,B.P])):∀ (m i:Nat),i + m = B.L.length→∀ F,mask k86_0 F = s86_0 (.int .i64 ((n:Int) + 1)) (.str s) (.ref 0 0) (.int .i64 i) →
  EvCode E (.loop k86_0 l86_0) F h = some (if atomIdx n (B.L.drop i) s = -1 then (.exit 0,x86_0,h) else (.ret,r86 (.int .i64 (i + atomIdx n (B.L.drop i) s)),h))
 | 0,i,hi,F,hF=>by
  have hi':i = B.L.length:=by omega
  subst hi'
  rw [EvCode_loop,hF]
  simp only [Tb.A,Tb.P] at hb
  simp [l86_0,s86_0,x86_0,atomIdx,idxV,hb]
 | m + 1,i,hi,F,hF=>by
  have hlt:i < B.L.length:=by omega
  have hpl:=ok.len
  have ih:=refAtom_loop ok hn s hb m (i + 1) (by omega)
  rw [EvCode_loop,hF,List.drop_eq_getElem_cons hlt]
  generalize EvCode E (.loop k86_0 l86_0) = lp at ih ⊢
  simp only [Tb.A,Tb.P] at hb
  have hw:IntKind.i64.wrap (n:Int) = n:=w64
  have hn5:(n:Int) < 5:=by omega
  cases hs:s.isEmpty
  ·simp only [atomIdx,hs,Bool.false_eq_true,if_false,idxV_cons] at ih ⊢
   cases hp:(B.L[i].code n == s)
   ·simp [l86_0,s86_0,hlt,hb,hs,fm_len (acs_len B.ot),lt_at hlt,le_off hlt,lt_off hlt,hw,hn5,(by omega:n < 12),(by omega:n + 1 ≤ 12),code_at B.ot hn hlt,hp,w64 (n:=(i:Int) + 1)]
    rw [ih _ (by simp [s86_0])]
    rcases idxV_range (fun a=>a.code n == s) (B.L.drop (i + 1)) with hq | ⟨k,_,hq⟩
    ·simp [hq]
    ·rw [hq,if_neg (by omega),if_neg (by omega),if_neg (by omega)]
     simp [r86]
     omega
   ·simp [l86_0,s86_0,hlt,hb,hs,fm_len (acs_len B.ot),lt_at hlt,le_off hlt,lt_off hlt,hw,hn5,(by omega:n < 12),(by omega:n + 1 ≤ 12),code_at B.ot hn hlt,hp,r86]
  ·simp [l86_0,s86_0,hlt,hb,hs,w64 (n:=(i:Int) + 1)]
   rw [ih _ (by simp [s86_0])]
   simp [atomIdx,hs]
theorem refAtom_eq (H:Has 86 E) (ok:B.Ok) (hn:n < 5) (s:List UInt8):EvClosed E (.fn (.func 86) [] []) [B.V,.int .i64 ((n:Int) + 1),.str s] = some (.int .i64 (atomIdx n B.L s)):=by
 rw [EvClosed_eq H.c86 rfl (vs:=[B.V,.int .i64 ((n:Int) + 1),.str s]) (by simp [Tb.V,Tb.A_shut ok,Tb.P_shut ok]),EvFn_eq]
 have hl:=fun h hb=>refAtom_loop (E:=E) ok hn s (h:=h) hb B.L.length 0 (by omega)
 simp [f86,start,Tb.V]
 rw [hl _ (by simp) _ (by simp [s86_0])]
 by_cases hq:atomIdx n B.L s = -1 <;> simp [hq,x86_0,r86]
end Go.Pv
