/- A part of the proof: functions of the program in the evaluator's code, and what they come to. Conditions: none; definitions and theorems that the statement's proof uses. -/
import Derived.Test.YteiaohbhlapklaaGreatDoorSetPcNotes
import Derived.Test.YteiaohbhlapklaaGreatDoorSetPcNest0
/- ParseJoins is true. Conditions: the functions' codes; theorems. -/
namespace Go.Pv
variable {E:Env} {x sz:Int}
end Go.Pv
/- PrintDeep is true. Conditions: the functions' codes; theorems. -/
namespace Go.Pv
variable {E:Env} {x:Int} {h:AHeap}
def StepsG (h:AHeap) (t:List StepA) (v:AV):Prop:=v = .vs .full t.length (t.flatMap StepA.cs)∨∃ k,v = .vs (.tok k 6) t.length (t.flatMap StepA.cs)∧h.tk k = some (t.length * 6)∧h.rot ≤ k
theorem StepsG.tree {t:List StepA} {v:AV} (g:StepsG h t v):TreeV v t:=by
 rcases g with rfl | ⟨k,rfl,_⟩
 ·exact .inr ⟨_,rfl⟩
 ·exact .inr ⟨_,rfl⟩
theorem StepsG.cell {t:List StepA} {v:AV} (g:StepsG h t v):v.isCell = true∧den v = v:=by
 rcases g with rfl | ⟨k,rfl,_⟩
 ·exact ⟨rfl,rfl⟩
 ·exact ⟨rfl,rfl⟩
theorem StepsG.add {t:List StepA} {v:AV} (g:StepsG h t v) (hl:t.length < 900000) (hr:h.rot ≤ h.toks.length) (s:StepA):
  ∃ v' ts,appendA 6 56 h v (.vs .full 1 s.cs) = some (v',h.toks_ ts)∧StepsG (h.toks_ ts) (t++[s]) v'∧h.rot ≤ ts.length:=by
 have hll:(t.flatMap StepA.cs).length = t.length * 6:=fm_len StepA.len t
 have hs:s.cs.length = 6:=StepA.len s
 have hb:(t.length + 1) * 56 ≤ 140737488355328:=by omega
 have hc:s.cs.all AV.isCell = true:=by simp [StepA.cs]
 have e:(t++[s]).flatMap StepA.cs = t.flatMap StepA.cs++s.cs:=by simp
 have el:(t++[s]).length = t.length + 1:=by simp
 rcases g with rfl | ⟨k,rfl,h1,h2⟩
 ·refine ⟨.vs (.tok h.toks.length 6) (t.length + 1) (t.flatMap StepA.cs++s.cs),h.toks++[(t.flatMap StepA.cs).length + s.cs.length],?_,.inr ⟨h.toks.length,by rw [e,el],?_,hr⟩,by simp; omega⟩
  ·simp [appendA,sliceCells,hll,hs,hb,AHeap.toks_]
   exact List.all_eq_true.1 hc
  ·rw [el,hll,hs]
   simp [tk_toks]
   omega
 ·have hk:k < h.toks.length:=(List.getElem?_eq_some_iff.1 h1).1
  refine ⟨.vs (.tok k 6) (t.length + 1) (t.flatMap StepA.cs++s.cs),h.toks.set k ((t.flatMap StepA.cs).length + s.cs.length),?_,.inr ⟨k,by rw [e,el],?_,h2⟩,by simp; omega⟩
  ·have h1':h.toks[k]? = some (t.length * 6):=h1
   simp [appendA,sliceCells,hll,hs,hb,AHeap.toks_,h2]
   exact ⟨List.all_eq_true.1 hc,h1'⟩
  ·rw [el,hll,hs]
   simp [tk_toks,hk]
   omega
abbrev oneS:StepA:=⟨1,-1,0,0,1,[]⟩
theorem rep_snoc {α:Type} (n:Nat) (a:α):List.replicate n a++[a] = List.replicate (n + 1) a:=by rw [List.replicate_succ']
theorem deep_loop0 {m:Nat} (hm:m < 1000) {T K:AV}:∀ (n i:Nat),i + n = m→∀ (h:AHeap) (v:AV),StepsG h (List.replicate (i + 1) oneS) v→h.bl 0 = some (.cells oneS.cs)→h.rot ≤ h.toks.length →
  ∃ h' v',(∀ F,mask k223_0 F = s223_0 T K (.int .i64 m) (.ref 0 0) v (.int .i64 i)→EvCode E (.loop k223_0 l223_0) F h = some (.exit 0,x223_0 T K (.int .i64 m) v',h'))∧StepsG h' (List.replicate (m + 1) oneS) v'∧h'.rot ≤ h'.toks.length
 | 0,i,hi,h,v,g,hb,hr=>by
  have:i = m:=by omega
  subst this
  refine ⟨h,v,fun F hF=>?_,g,hr⟩
  rw [EvCode_loop,hF]
  simp [l223_0,s223_0,x223_0]
 | n + 1,i,hi,h,v,g,hb,hr=>by
  obtain ⟨v',ts,e1,g',hr'⟩:=g.add (by simp; omega) hr oneS
  rw [rep_snoc] at g'
  obtain ⟨h',v2,q1,q2,q3⟩:=deep_loop0 hm (T:=T) (K:=K) n (i + 1) (by omega) (h.toks_ ts) v' g' hb hr'
  refine ⟨h',v2,fun F hF=>?_,q2,q3⟩
  have hden:=g.cell.2
  have d1:decide ((i:Int) < (m:Int)) = true:=decide_eq_true (by omega)
  have hlt:i < m:=by omega
  have w1:IntKind.i64.wrap ((i:Int) + 1) = (i:Int) + 1:=w64
  have cn:((i + 1:Nat):Int) = (i:Int) + 1:=by simp
  rw [cn] at q1
  rw [EvCode_loop,hF]
  simp only [StepA.cs] at e1 hb
  generalize EvCode E (.loop k223_0 l223_0) = lp at q1 ⊢
  simp [-den,l223_0,s223_0,hlt,hb,hden,e1,w1]
  exact q1 _ (by simp [s223_0])
theorem deep_loop1 {m:Nat} (hm:m < 1000) {T K:AV} {t:List StepA} (ht:t.length < 1000):∀ (n i:Nat),i + n = m→∀ (h:AHeap) (v:AV),StepsG h (t++List.replicate i (stepO 3)) v→h.rot ≤ h.toks.length →
  ∃ h' v',(∀ F,mask k223_1 F = s223_1 T K (.int .i64 m) v (.int .i64 i)→EvCode E (.loop k223_1 l223_1) F h = some (.exit 2,x223_2 T K (.int .i64 m) v',h'))∧StepsG h' (t++List.replicate m (stepO 3)) v'
 | 0,i,hi,h,v,g,hr=>by
  have:i = m:=by omega
  subst this
  refine ⟨h,v,fun F hF=>?_,g⟩
  rw [EvCode_loop,hF]
  simp [l223_1,s223_1,x223_2]
 | n + 1,i,hi,h,v,g,hr=>by
  obtain ⟨v',ts,e1,g',hr'⟩:=g.add (by simp; omega) hr (stepO 3)
  rw [List.append_assoc,rep_snoc] at g'
  obtain ⟨h',v2,q1,q2⟩:=deep_loop1 hm (T:=T) (K:=K) ht n (i + 1) (by omega) (h.toks_ ts) v' g' hr'
  refine ⟨h',v2,fun F hF=>?_,q2⟩
  have hden:=g.cell.2
  have hlt:i < m:=by omega
  have w1:IntKind.i64.wrap ((i:Int) + 1) = (i:Int) + 1:=w64
  have cn:((i + 1:Nat):Int) = (i:Int) + 1:=by simp
  rw [cn] at q1
  rw [EvCode_loop,hF]
  simp only [StepA.cs,stepO] at e1
  generalize EvCode E (.loop k223_1 l223_1) = lp at q1 ⊢
  simp [-den,l223_1,s223_1,hlt,hden,e1,w1]
  exact q1 _ (by simp [s223_1])
def chain:Nat→Tr
 | 0=>.num 1
 | m + 1=>.bin 3 (.num 1) (chain m)
theorem chain_steps:∀ m,(chain m).steps = List.replicate (m + 1) oneS++List.replicate m (stepO 3)
 | 0=>rfl
 | m + 1=>by
  rw [chain,Tr.steps,chain_steps m]
  show [oneS]++(List.replicate (m + 1) oneS++List.replicate m (stepO 3))++[stepO 3] = _
  rw [List.append_assoc,List.append_assoc,rep_snoc]
  rfl
theorem chain_ok:∀ m,TrOk (chain m)∧(chain m).fits∧(chain m).told x
 | 0=>⟨.num 1 (by decide),(by show (1:Int) ≤ _; decide),trivial⟩
 | m + 1=>⟨.bin 3 _ _ (.inl rfl) (.num 1 (by decide)) (chain_ok m).1,⟨(by show (1:Int) ≤ _; decide),(chain_ok m).2.1⟩,⟨trivial,(chain_ok m).2.2⟩⟩
theorem chain_in:∀ m,inB 3 (chain m).steps = !(m == 0)
 | 0=>rfl
 | m + 1=>by
  unfold inB
  rw [chain,last_bin]
  rfl
theorem chain_deep:∀ m,(chain m).deep = m - 1∧(chain m).brks = m - 1
 | 0=>⟨rfl,rfl⟩
 | 1=>⟨rfl,rfl⟩
 | m + 2=>by
  obtain ⟨h1,h2⟩:=chain_deep (m + 1)
  have h3:=chain_in (m + 1)
  rw [chain]
  simp only [Tr.deep,Tr.brks,h1,h2,h3]
  simp
theorem chain_len:∀ m,(ptext x (chain m)).length ≤ 1 + 4 * m
 | 0=>by
  show (decS (1:Int).toNat).length ≤ _
  decide
 | m + 1=>by
  have h1:=chain_len m
  have h2:=brk_len (inB 3 (chain m).steps) (ptext x (chain m))
  have h3:(decS (1:Int).toNat).length = 1:=by decide
  simp only [chain,ptext,List.length_append,List.length_cons,h3]
  omega
theorem chain_miss:∀ m i,missD x (chain m).steps i = none:=by
 intro m i
 rw [chain_steps]
 have one:badD x oneS = none:=rfl
 have mul:badD x (stepO 3) = none:=rfl
 have r2:∀ n i,missD x (List.replicate n (stepO 3)) i = none:=by
  intro n
  induction n with
  | zero=>intro i; rfl
  | succ n ih=>intro i; rw [List.replicate_succ]; simp only [missD,mul]; exact ih _
 have r1:∀ n i,missD x (List.replicate n oneS++List.replicate m (stepO 3)) i = none:=by
  intro n
  induction n with
  | zero=>intro i; exact r2 _ _
  | succ n ih=>intro i; rw [List.replicate_succ,List.cons_append]; simp only [missD,one]; exact ih _
 exact r1 _ _
set_option maxHeartbeats 1000000 in
set_option maxRecDepth 20000 in
theorem printDeep_eq (H:Has 223 E) (n d:Int):EvClosed E (.fn (.func 223) [] []) [.int .i64 n,.int .i64 d] = some (.bool true):=by
 rw [EvClosed_eq H.c223 rfl (vs:=[.int .i64 n,.int .i64 d]) (by simp),EvFn_eq]
 have hk:1 ≤ 1 + n % 5∧1 + n % 5 ≤ 5:=by omega
 have hw:IntKind.i64.wrap (1 + n % 5) = 1 + n % 5:=w64
 have hr:=rest232_eq (H.to 232) (x:=n) (m:=5) (by omega) (by omega)
 have hr2:=rest232_eq (H.to 232) (x:=d) (m:=41) (by omega) (by omega)
 generalize n % 5 = r at *
 obtain ⟨m,hm,hm40⟩:∃ m:Nat,d % 41 = m∧m ≤ 40:=⟨(d % 41).toNat,by omega,by omega⟩
 rw [hm] at hr2
 have hkk:∃ k,k = 1 + r:=⟨_,rfl⟩
 obtain ⟨k,hkk⟩:=hkk
 rw [← hkk] at hk hw
 have hn:isN k = true:=by simp [isN,hk]
 have haw:=awake231_eq (H.to 231)
 obtain ⟨c1,c2,c3⟩:=chain_ok (x:=k) m
 have hsl:(chain m).steps.length = m + 1 + m:=by rw [chain_steps]; simp
 obtain ⟨g1,v1,q1,G1,R1⟩:=deep_loop0 (E:=E) (m:=m) (by omega) (T:=.bool true) (K:=.int .i64 k) m 0 (by omega) (heap0.push (.cells oneS.cs)) (.vs .full 1 oneS.cs) (.inl rfl) rfl (by simp [heap0,AHeap.push])
 obtain ⟨g2,v2,q2,G2⟩:=deep_loop1 (E:=E) (m:=m) (by omega) (T:=.bool true) (K:=.int .i64 k) (t:=List.replicate (m + 1) oneS) (by simp; omega) m 0 (by omega) g1 v1 (by simpa using G1) R1
 rw [← chain_steps] at G2
 have hp:=print235_eq (H.to 235) hn c1 c2 (by omega) G2.tree
 have hnt:=nest169_eq (H.to 169) c1 (by omega) G2.tree
 have hcell1:=G1.cell.1
 have hcell2:=G2.cell.1
 obtain ⟨hd1,hb1⟩:=chain_deep m
 have hcl:=chain_len (x:=k) m
 have hpd:printD k (chain m) = if 32 < m - 1 then ([],0,13) else (ptext k (chain m),0,0):=by
  unfold printD
  rw [chain_miss,hd1]
  simp only
  split
  ·rfl
  ·rw [if_neg (by omega)]
 rw [hd1] at hnt
 simp only [StepA.cs] at q1
 by_cases hm33:33 < m
 ·rw [if_pos (by omega)] at hpd
  rw [hpd] at hp
  simp only [prtT] at hp
  have d3:(33:Int) < (m:Int):=by omega
  have w2:IntKind.i64.wrap ((m:Int) - 1) = ((m - 1:Nat):Int):=by
   rw [show ((m - 1:Nat):Int) = (m:Int) - 1 by omega]
   exact w64
  rw [hkk] at hw hp q1 q2
  simp [f223,start,EvCall_closed H.c231 rfl,EvCall_closed H.c232 rfl,haw,hr,hr2,hw,push_setk]
  rw [q1 _ (by simp [s223_0])]
  simp [x223_0]
  rw [q2 _ (by simp [s223_1])]
  simp [x223_2,EvCall_closed H.c235 rfl,EvCall_closed H.c169 rfl,hp,hnt,d3,w2]
 ·rw [if_neg (by omega)] at hpd
  rw [hpd] at hp
  simp only [prtT] at hp
  obtain ⟨ts,hts,hlx⟩:=lex_print hn c1 c2 c3
  have hlf:=lefts239_eq (H.to 239) k (ptext k (chain m)) (by omega)
  rw [hlx,left_tree _ _ hts,hb1] at hlf
  have d3:¬ (33:Int) < (m:Int):=by omega
  have w2:IntKind.i64.wrap ((m:Int) - 1) = (m:Int) - 1:=w64
  generalize ptext k (chain m) = s at *
  rw [hkk] at hw hp q1 q2 hlf
  simp [f223,start,EvCall_closed H.c231 rfl,EvCall_closed H.c232 rfl,haw,hr,hr2,hw,push_setk]
  rw [q1 _ (by simp [s223_0])]
  simp [x223_0]
  rw [q2 _ (by simp [s223_1])]
  simp [x223_2,EvCall_closed H.c235 rfl,EvCall_closed H.c239 rfl,hp,hlf,d3,w2]
  split <;> omega
end Go.Pv
