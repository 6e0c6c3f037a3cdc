/- A part of the proof: functions of the program in the evaluator's code, and what they come to. Conditions: none; definitions and theorems that the statement's proof uses. -/
import Derived.Test.YteiaohbhlapklaaGreatDoorSettPcParse7
/- The reference's functions on trees: what is sound, and where it is cut. Conditions: the functions' codes; theorems. -/
namespace Go.Pv
variable {E:Env} {h:AHeap}
inductive TrOk:Tr→Prop where
 | num (n:Int):1 ≤ n→TrOk (.num n)
 | sym (p a n:Int):0 ≤ a→a < atomsT.length→-1 ≤ p→p < prefsT.length→-99 ≤ n→n ≤ 99→(p = -1∨metricT a = true)→TrOk (.sym p a n)
 | alone (s:List UInt8):printB s = true→s.length < 1000000→TrOk (.alone s)
 | note (t:Tr) (s:List UInt8):TrOk t→printB s = true→s.length < 1000000→TrOk (.note t s)
 | inv (t:Tr):TrOk t→TrOk (.inv t)
 | bin (o:Int) (l r:Tr):o = 3∨o = 4→TrOk l→TrOk r→TrOk (.bin o l r)
theorem tr_steps {t:Tr} (ht:TrOk t):∀ s ∈ t.steps,StepOk s:=by
 induction ht with
 | num n h1=>intro s hs; simp [Tr.steps] at hs; subst hs; exact .num n h1
 | sym p a n a0 a1 p0 p1 n0 n1 hm=>intro s hs; simp [Tr.steps] at hs; subst hs; exact .sym p a n a0 a1 p0 p1 n0 n1 hm
 | alone s h1 h2=>intro x hx; simp [Tr.steps] at hx; subst hx; exact .text 7 s (.inr rfl) h1 h2
 | note t s _ h1 h2 ih=>
  intro x hx
  simp only [Tr.steps,List.mem_append,List.mem_singleton] at hx
  rcases hx with hx | rfl
  ·exact ih x hx
  ·exact .text 6 s (.inl rfl) h1 h2
 | inv t _ ih=>
  intro x hx
  simp only [Tr.steps,List.mem_append,List.mem_singleton] at hx
  rcases hx with hx | rfl
  ·exact ih x hx
  ·exact .op 5 (.inr (.inr rfl))
 | bin o l r ho _ _ ih1 ih2=>
  intro x hx
  simp only [Tr.steps,List.mem_append,List.mem_singleton] at hx
  rcases hx with (hx | hx) | rfl
  ·exact ih1 x hx
  ·exact ih2 x hx
  ·exact .op o (by rcases ho with rfl | rfl <;> simp)
def leaves:Int→List StepA→Option Int
 | n,[]=>some n
 | n,x :: r=>if n < takesI x.op then none else leaves (n - takesI x.op + 1) r
theorem leaves_app:∀ (a b:List StepA) (n:Int),leaves n (a++b) = (leaves n a).bind (leaves · b)
 | [],b,n=>rfl
 | x :: a,b,n=>by
  simp only [List.cons_append,leaves]
  split
  ·rfl
  ·exact leaves_app a b _
theorem leaves_one {n k:Int} {x:StepA} (hk:takesI x.op = k) (h:¬ n < k):leaves n [x] = some (n - k + 1):=by
 subst hk
 simp [leaves,h]
theorem leaves_tr {t:Tr} (ht:TrOk t):∀ n:Int,0 ≤ n→leaves n t.steps = some (n + 1):=by
 have one:∀ (s:StepA) (n:Int),takesI s.op = 0→0 ≤ n→leaves n [s] = some (n + 1):=by
  intro s n h0 hn
  simp [leaves,h0,Int.not_lt.2 hn]
 induction ht with
 | num n h1=>intro m hm; exact one _ m rfl hm
 | sym p a n _ _ _ _ _ _ _=>intro m hm; exact one _ m rfl hm
 | alone s h1 h2=>intro m hm; exact one _ m rfl hm
 | note t s _ h1 h2 ih=>
  intro m hm
  rw [Tr.steps,leaves_app,ih m hm]
  refine (leaves_one (k:=1) rfl (by omega)).trans ?_
  congr 1
  omega
 | inv t _ ih=>
  intro m hm
  rw [Tr.steps,leaves_app,ih m hm]
  refine (leaves_one (k:=1) rfl (by omega)).trans ?_
  congr 1
  omega
 | bin o l r ho _ _ ih1 ih2=>
  intro m hm
  rw [Tr.steps,leaves_app,leaves_app,ih1 m hm]
  have e:(some (m + 1)).bind (fun x=>leaves x r.steps) = some (m + 1 + 1):=ih2 (m + 1) (by omega)
  rw [e]
  refine (leaves_one (k:=2) (by rcases ho with rfl | rfl <;> rfl) (by omega)).trans ?_
  congr 1
  omega
theorem sound_loop (H:Has 170 E) {own:Own} {t:List StepA} (hok:∀ s ∈ t,StepOk s) (hl:t.length < 1000000):∀ (m i:Nat),i + m = t.length→∀ (n k:Int),0 ≤ n→n ≤ i→leaves n (t.drop i) = some k→∀ F,mask k170_0 F = s170_0 (.vs own t.length (t.flatMap StepA.cs)) (.int .i64 n) (.int .i64 i) →
  EvCode E (.loop k170_0 l170_0) F h = some (.exit 0,x170_0 (.int .i64 k),h)
 | 0,i,hi,n,k,hn,hni,hlv,F,hF=>by
  have:i = t.length:=by omega
  subst this
  rw [List.drop_length] at hlv
  simp only [leaves] at hlv
  cases hlv
  rw [EvCode_loop,hF]
  simp [l170_0,s170_0,x170_0]
 | m + 1,i,hi,n,k,hn,hni,hlv,F,hF=>by
  have hlt:i < t.length:=by omega
  rw [List.drop_eq_getElem_cons hlt] at hlv
  simp only [leaves] at hlv
  split at hlv
  ·cases hlv
  ·rename_i htk
   have hmay:=may_eq (H.to 182) (hok t[i] (List.getElem_mem hlt))
   have htake:=takes_eq (H.to 183) t[i].op
   have hr:0 ≤ takesI t[i].op∧takesI t[i].op ≤ 2:=by
    unfold takesI
    split
    ·omega
    ·split <;> omega
   have ih:=sound_loop H (own:=own) hok hl m (i + 1) (by omega) (n - takesI t[i].op + 1) k (by omega) (by omega) hlv
   have e6:((t.flatMap StepA.cs).drop (i * 6)).take 6 = t[i].cs:=fm_el StepA.len hlt
   have e1:((t.flatMap StepA.cs).drop (i * 6)).take 1 = [.int .i64 t[i].op]:=by
    rw [fm_at0 StepA.len hlt (by omega)]
    rfl
   have ll:(t.flatMap StepA.cs).length = t.length * 6:=fm_len StepA.len t
   have hd:decide ((i:Int) < (t.length:Int)) = true:=decide_eq_true (by omega)
   have h6:6 ≤ t.length * 6 - i * 6:=by omega
   have h1:1 ≤ t.length * 6 - i * 6:=by omega
   have h60:i * 6 < t.length * 6:=by omega
   have htk':decide (n < takesI t[i].op) = false:=decide_eq_false htk
   have w1:IntKind.i64.wrap ((i:Int) + 1) = (i:Int) + 1:=w64
   have w2:IntKind.i64.wrap (n - takesI t[i].op) = n - takesI t[i].op:=w64
   have w3:IntKind.i64.wrap (n - takesI t[i].op + 1) = n - takesI t[i].op + 1:=w64
   have h0:0 < t.length * 6 - i * 6:=by omega
   rw [EvCode_loop,hF]
   generalize t.flatMap StepA.cs = ca at *
   generalize EvCode E (.loop k170_0 l170_0) = lp at ih ⊢
   simp [l170_0,s170_0,hlt,ll,h6,h1,h60,h0,e6,e1,EvCall_closed H.c182 rfl,EvCall_closed H.c183 rfl,hmay,htake,htk',w1,w2,w3]
   exact ih _ (by simp [s170_0])
theorem sound_eq (H:Has 170 E) {v:AV} {t:Tr} (ht:TrOk t) (hv:TreeV v t.steps) (hl:t.steps.length ≤ 255):EvClosed E (.fn (.func 170) [] []) [v] = some (.bool true):=by
 obtain ⟨v',sv,hv'⟩:=tree_shut hv
 rw [EvClosed_eq H.c170 rfl (vs:=[v']) (by simp [sv]),EvFn_eq]
 have hpos:=Tr.steps_pos t
 rcases hv' with ⟨_,h0⟩ | ⟨own,rfl⟩
 ·rw [h0] at hpos
  simp at hpos
 ·have d:decide (255 < (t.steps.length:Int)) = false:=decide_eq_false (by omega)
  have lp:=sound_loop (E:=E) (h:=heap0) H (own:=own) (tr_steps ht) (by omega) t.steps.length 0 (by omega) 0 1 (by omega) (by omega) (leaves_tr ht 0 (by omega))
  simp [f170,start,d]
  rw [lp _ (by simp [s170_0])]
  simp [x170_0]
end Go.Pv
/- The reference's functions on trees: where they are cut, their parts, brackets. Conditions: the functions' codes; theorems. -/
namespace Go.Pv
variable {E:Env}
def cutI (t:List StepA):Nat→Int→Nat
 | 0,_=>0
 | i + 1,need=>if 0 < need then cutI t i (need - 1 + takesI ((t[i]?.map (·.op)).getD 0)) else i + 1
theorem takes_range (o:Int):0 ≤ takesI o∧takesI o ≤ 2:=by
 unfold takesI
 split
 ·omega
 ·split <;> omega
theorem cutI_zero (t:List StepA) (i:Nat):cutI t i 0 = i:=by
 cases i with
 | zero=>rfl
 | succ i=>simp [cutI]
theorem cut_step {a c:List StepA} {s:StepA} {need:Int} (hn:1 ≤ need):cutI (a++s :: c) (a.length + 1) need = cutI (a++s :: c) a.length (need - 1 + takesI s.op):=by
 simp only [cutI]
 rw [if_pos (by omega)]
 simp
theorem cut_tr {r:Tr} (hr:TrOk r):∀ (a c:List StepA) (need:Int),1 ≤ need→cutI (a++(r.steps++c)) (a.length + r.steps.length) need = cutI (a++(r.steps++c)) a.length (need - 1):=by
 have one:∀ (s:StepA) (a c:List StepA) (need:Int),takesI s.op = 0→1 ≤ need→cutI (a++([s]++c)) (a.length + [s].length) need = cutI (a++([s]++c)) a.length (need - 1):=by
  intro s a c need h0 hn
  have:=cut_step (a:=a) (c:=c) (s:=s) hn
  rw [h0,Int.add_zero] at this
  exact this
 have snoc:∀ (b:List StepA) (s:StepA) (a c:List StepA) (need:Int),1 ≤ need→cutI (a++(b++[s]++c)) (a.length + (b++[s]).length) need = cutI (a++(b++[s]++c)) (a.length + b.length) (need - 1 + takesI s.op):=by
  intro b s a c need hn
  have:=cut_step (a:=a++b) (c:=c) (s:=s) hn
  simp only [List.length_append,List.append_assoc,List.cons_append,List.nil_append,List.length_cons,List.length_nil,Nat.add_assoc] at this ⊢
  exact this
 induction hr with
 | num n h1=>intro a c need hn; exact one _ a c need rfl hn
 | sym p a n _ _ _ _ _ _ _=>intro a c need hn; exact one _ a c need rfl hn
 | alone s h1 h2=>intro a c need hn; exact one _ a c need rfl hn
 | note t s _ h1 h2 ih=>
  intro a c need hn
  rw [Tr.steps,snoc _ _ a c need hn]
  have e:need - 1 + takesI 6 = need:=by rw [show takesI 6 = 1 from rfl]; omega
  have:=ih a ([⟨6,-1,0,0,0,s⟩]++c) need hn
  show cutI _ _ (need - 1 + takesI 6) = _
  rw [e]
  simp only [List.append_assoc] at this ⊢
  exact this
 | inv t _ ih=>
  intro a c need hn
  rw [Tr.steps,snoc _ _ a c need hn]
  have e:need - 1 + takesI 5 = need:=by rw [show takesI 5 = 1 from rfl]; omega
  have:=ih a ([stepO 5]++c) need hn
  show cutI _ _ (need - 1 + takesI 5) = _
  rw [e]
  simp only [List.append_assoc] at this ⊢
  exact this
 | bin o l r ho _ _ ih1 ih2=>
  intro a c need hn
  rw [Tr.steps,snoc _ _ a c need hn]
  have e:need - 1 + takesI o = need + 1:=by
   have:takesI o = 2:=by rcases ho with rfl | rfl <;> rfl
   omega
  show cutI _ _ (need - 1 + takesI o) = _
  rw [e]
  have h2:=ih2 (a++l.steps) ([stepO o]++c) (need + 1) (by omega)
  have h1:=ih1 a (r.steps++([stepO o]++c)) need hn
  simp only [List.append_assoc,List.length_append,Nat.add_assoc,Int.add_sub_cancel] at h1 h2 ⊢
  rw [h2]
  exact h1
theorem cut_loop (H:Has 206 E) {h:AHeap} {own:Own} {t:List StepA} (hl:t.length < 1000000):∀ (i:Nat),i ≤ t.length→∀ need:Int,0 ≤ need→need ≤ 1000001 + t.length - i→∀ F,mask k206_0 F = s206_0 (.vs own t.length (t.flatMap StepA.cs)) (.int .i64 need) (.int .i64 i) →
  EvCode E (.loop k206_0 l206_0) F h = some (.exit 0,x206_0 (.int .i64 (cutI t i need)),h)
 | 0,hi,need,h0,h1,F,hF=>by
  rw [EvCode_loop,hF]
  cases hn:decide (0 < need) <;> simp [l206_0,s206_0,x206_0,cutI,hn]
 | i + 1,hi,need,h0,h1,F,hF=>by
  have hlt:i < t.length:=hi
  have htake:=takes_eq (H.to 183) t[i].op
  have hr:=takes_range t[i].op
  rw [EvCode_loop,hF]
  by_cases hn:0 < need
  ·have ih:=cut_loop H (h:=h) (own:=own) hl i (by omega) (need - 1 + takesI t[i].op) (by omega) (by omega)
   have hd:decide (0 < need) = true:=decide_eq_true hn
   have hd2:decide ((0:Int) < ((i + 1:Nat):Int)) = true:=decide_eq_true (by omega)
   have e1:((t.flatMap StepA.cs).drop (i * 6)).take 1 = [.int .i64 t[i].op]:=by
    rw [fm_at0 StepA.len hlt (by omega)]
    rfl
   have ll:(t.flatMap StepA.cs).length = t.length * 6:=fm_len StepA.len t
   have h1':1 ≤ t.length * 6 - i * 6:=by omega
   have h60:i * 6 < t.length * 6:=by omega
   have h00:0 < t.length * 6 - i * 6:=by omega
   have w1:IntKind.i64.wrap ((i:Int) + 1 - 1) = (i:Int):=by rw [Int.add_sub_cancel]; exact w64
   have w1':IntKind.i64.wrap (i:Int) = (i:Int):=w64
   have w2:IntKind.i64.wrap (need - 1) = need - 1:=w64
   have w3:IntKind.i64.wrap (need - 1 + takesI t[i].op) = need - 1 + takesI t[i].op:=w64
   have hc:cutI t (i + 1) need = cutI t i (need - 1 + takesI t[i].op):=by
    simp only [cutI]
    rw [if_pos hn]
    simp [hlt]
   have hi1:decide ((0:Int) < (i:Int) + 1) = true:=decide_eq_true (by omega)
   rw [hc]
   generalize t.flatMap StepA.cs = ca at *
   generalize EvCode E (.loop k206_0 l206_0) = lp at ih ⊢
   simp [l206_0,s206_0,hd,hlt,ll,h1',h60,h00,e1,EvCall_closed H.c183 rfl,htake,w1',w2,w3]
   exact ih _ (by simp [s206_0])
  ·have hd:decide (0 < need) = false:=decide_eq_false hn
   have hc:cutI t (i + 1) need = i + 1:=by
    simp only [cutI]
    rw [if_neg hn]
   rw [hc]
   simp [l206_0,s206_0,x206_0,hd]
theorem cut_eq (H:Has 206 E) {v:AV} {t:List StepA} (hv:TreeV v t) (hl:t.length < 1000000):EvClosed E (.fn (.func 206) [] []) [v] = some (.int .i64 (cutI t t.length 1)):=by
 obtain ⟨v',sv,hv'⟩:=tree_shut hv
 rw [EvClosed_eq H.c206 rfl (vs:=[v']) (by simp [sv]),EvFn_eq]
 rcases hv' with ⟨rfl,rfl⟩ | ⟨own,rfl⟩
 ·simp [f206,start]
  rw [EvCode_loop]
  simp [k206_0,l206_0,cutI]
 ·have lp:=cut_loop (h:=heap0) H (own:=own) hl t.length (Nat.le_refl _) 1 (by omega) (by omega)
  simp [f206,start]
  rw [lp _ (by simp [s206_0])]
  simp [x206_0]
def lastOp (t:List StepA):Int:=((t.getLast?).map (·.op)).getD 0
def looseB (o:Int):Bool:=o == 3 || o == 4 || o == 5
def inB (o:Int) (r:List StepA):Bool:=looseB (lastOp r) || (o == 6 && (lastOp r == 6 || lastOp r == 7))
theorem last_at {t:List StepA} {a:List StepA} {x:StepA} (ht:t = a++[x]):((t.flatMap StepA.cs).drop (a.length * 6)).take 1 = [.int .i64 x.op]∧lastOp t = x.op∧t.length = a.length + 1:=by
 subst ht
 refine ⟨?_,by simp [lastOp],by simp⟩
 rw [List.flatMap_append,List.drop_append_of_le_length (by rw [fm_len StepA.len]; exact Nat.le_refl _)]
 rw [List.drop_of_length_le (by rw [fm_len StepA.len]; exact Nat.le_refl _)]
 simp [StepA.cs]
theorem loose_eq (H:Has 207 E) {v:AV} {t a:List StepA} {x:StepA} (hv:TreeV v t) (ht:t = a++[x]) (hl:t.length < 1000000):EvClosed E (.fn (.func 207) [] []) [v] = some (.bool (looseB (lastOp t))):=by
 obtain ⟨v',sv,hv'⟩:=tree_shut hv
 rw [EvClosed_eq H.c207 rfl (vs:=[v']) (by simp [sv]),EvFn_eq]
 obtain ⟨e1,e2,e3⟩:=last_at ht
 rcases hv' with ⟨_,h0⟩ | ⟨own,rfl⟩
 ·rw [h0] at e3
  simp at e3
 ·have ll:(t.flatMap StepA.cs).length = t.length * 6:=fm_len StepA.len t
  have w:IntKind.i64.wrap ((a.length:Int) + 1 - 1) = (a.length:Int):=by rw [Int.add_sub_cancel]; exact w64
  have w':IntKind.i64.wrap (a.length:Int) = (a.length:Int):=w64
  have hq:(a.length:Int) < (a.length:Int) + 1:=by omega
  have h1:a.length * 6 < (a.length + 1) * 6:=by omega
  have h2:1 ≤ (a.length + 1) * 6 - a.length * 6:=by omega
  have h3:0 < (a.length + 1) * 6 - a.length * 6:=by omega
  rw [e2,looseB]
  rw [e3] at ll ⊢
  generalize t.flatMap StepA.cs = ca at *
  cases q3:x.op == 3
  ·cases q4:x.op == 4
   ·simp [f207,start,w',hq,ll,h1,h2,h3,e1,q3,q4]
   ·simp [f207,start,w',hq,ll,h1,h2,h3,e1,q3,q4]
  ·simp [f207,start,w',hq,ll,h1,h2,h3,e1,q3]
theorem in_eq (H:Has 189 E) {v:AV} {t a:List StepA} {x:StepA} (hv:TreeV v t) (ht:t = a++[x]) (hl:t.length < 1000000) (o:Int):EvClosed E (.fn (.func 189) [] []) [.int .i64 o,v] = some (.bool (inB o t)):=by
 obtain ⟨v',sv,hv'⟩:=tree_shut hv
 rw [EvClosed_eq H.c189 rfl (vs:=[.int .i64 o,v']) (by simp [sv]),EvFn_eq]
 have hlo:=loose_eq (H.to 207) hv' ht hl
 obtain ⟨e1,e2,e3⟩:=last_at ht
 rcases hv' with ⟨_,h0⟩ | ⟨own,rfl⟩
 ·rw [h0] at e3
  simp at e3
 ·have ll:(t.flatMap StepA.cs).length = t.length * 6:=fm_len StepA.len t
  have w:IntKind.i64.wrap ((a.length:Int) + 1 - 1) = (a.length:Int):=by rw [Int.add_sub_cancel]; exact w64
  have w':IntKind.i64.wrap (a.length:Int) = (a.length:Int):=w64
  have hq:(a.length:Int) < (a.length:Int) + 1:=by omega
  have h1:a.length * 6 < (a.length + 1) * 6:=by omega
  have h2:1 ≤ (a.length + 1) * 6 - a.length * 6:=by omega
  have h3:0 < (a.length + 1) * 6 - a.length * 6:=by omega
  rw [inB,e2]
  rw [e2] at hlo
  rw [e3] at ll hlo ⊢
  generalize t.flatMap StepA.cs = ca at *
  cases q:looseB x.op
  ·rw [q] at hlo
   cases q6:o == 6
   ·simp [f189,start,EvCall_closed H.c207 rfl,hlo,w',hq,ll,h1,h2,h3,e1,q6]
   ·cases q7:x.op == 6 <;> simp [f189,start,EvCall_closed H.c207 rfl,hlo,w',hq,ll,h1,h2,h3,e1,q6,q7]
  ·rw [q] at hlo
   simp [f189,start,EvCall_closed H.c207 rfl,hlo,w',hq,ll,h1,h2,h3,e1]
end Go.Pv
/- The reference's functions on trees: parts, how deep brackets stand. Conditions: the functions' codes; theorems. -/
namespace Go.Pv
variable {E:Env}
def Tr.left:Tr→List StepA
 | .bin _ l _=>l.steps
 | _=>[]
def Tr.right:Tr→List StepA
 | .bin _ _ r=>r.steps
 | .note t _ | .inv t=>t.steps
 | _=>[]
theorem Tr.snoc:∀ t:Tr,∃ a x,t.steps = a++[x]∧a = t.left++t.right
 | .num _=>⟨[],_,rfl,rfl⟩
 | .sym _ _ _=>⟨[],_,rfl,rfl⟩
 | .alone _=>⟨[],_,rfl,rfl⟩
 | .note t _=>⟨t.steps,_,rfl,rfl⟩
 | .inv t=>⟨t.steps,_,rfl,rfl⟩
 | .bin _ l r=>⟨l.steps++r.steps,_,rfl,rfl⟩
structure PartsAt (t:Tr) (k:Int) (at_:Nat):Prop where
 takes:∀ a x,t.steps = a++[x]→takesI x.op = k
 cut:∀ a x,t.steps = a++[x]→k ≠ 0→cutI a a.length 1 = at_
 len:at_ = t.left.length
 kind:(k = 0∧t.left = []∧t.right = [])∨(k = 1∧t.left = [])∨k = 2
theorem snoc_inj {a b:List StepA} {x y:StepA} (h:a++[x] = b++[y]):a = b∧x = y:=by
 have:=List.append_inj' h rfl
 exact ⟨this.1,by simpa using this.2⟩
theorem cut_one {r:Tr} (hr:TrOk r) (l:List StepA):cutI (l++r.steps) (l++r.steps).length 1 = l.length:=by
 have:=cut_tr hr l [] 1 (by omega)
 simp only [List.append_nil] at this
 rw [List.length_append,this]
 exact cutI_zero _ _
theorem parts_at {t:Tr} (ht:TrOk t):∃ k at_,PartsAt t k at_:=by
 cases ht with
 | num n h1=>exact ⟨0,0,⟨fun a x h=>by obtain ⟨_,rfl⟩:=snoc_inj (a:=[]) h; rfl,fun _ _ _ h=>absurd rfl h,rfl,.inl ⟨rfl,rfl,rfl⟩⟩⟩
 | sym p a n _ _ _ _ _ _ _=>exact ⟨0,0,⟨fun a x h=>by obtain ⟨_,rfl⟩:=snoc_inj (a:=[]) h; rfl,fun _ _ _ h=>absurd rfl h,rfl,.inl ⟨rfl,rfl,rfl⟩⟩⟩
 | alone s h1 h2=>exact ⟨0,0,⟨fun a x h=>by obtain ⟨_,rfl⟩:=snoc_inj (a:=[]) h; rfl,fun _ _ _ h=>absurd rfl h,rfl,.inl ⟨rfl,rfl,rfl⟩⟩⟩
 | note t s ht h1 h2=>exact ⟨1,0,⟨fun a x h=>by obtain ⟨_,rfl⟩:=snoc_inj h; rfl,fun a x h _=>by obtain ⟨rfl,_⟩:=snoc_inj h; exact cut_one ht [],rfl,.inr (.inl ⟨rfl,rfl⟩)⟩⟩
 | inv t ht=>exact ⟨1,0,⟨fun a x h=>by obtain ⟨_,rfl⟩:=snoc_inj h; rfl,fun a x h _=>by obtain ⟨rfl,_⟩:=snoc_inj h; exact cut_one ht [],rfl,.inr (.inl ⟨rfl,rfl⟩)⟩⟩
 | bin o l r ho hl hr=>exact ⟨2,l.steps.length,⟨fun a x h=>by obtain ⟨_,rfl⟩:=snoc_inj h; rcases ho with rfl | rfl <;> rfl,fun a x h _=>by obtain ⟨rfl,_⟩:=snoc_inj h; exact cut_one hr _,rfl,.inr (.inr rfl)⟩⟩
set_option maxHeartbeats 2000000 in
theorem parts_eq (H:Has 188 E) {v:AV} {t:Tr} (ht:TrOk t) (hv:TreeV v t.steps) (hl:t.steps.length ≤ 255):∃ lv rv,EvClosed E (.fn (.func 188) [] []) [v] = some (.agg [lv,rv])∧TreeV lv t.left∧TreeV rv t.right:=by
 obtain ⟨v',sv,hv'⟩:=tree_shut hv
 rw [EvClosed_eq H.c188 rfl (vs:=[v']) (by simp [sv]),EvFn_eq]
 have hs:=sound_eq (H.to 170) ht hv' hl
 obtain ⟨a,x,e,ea⟩:=t.snoc
 obtain ⟨k,at_,P⟩:=parts_at ht
 have hk:=P.takes a x e
 have htk:=takes_eq (H.to 183) x.op
 rw [hk] at htk
 obtain ⟨e1,e2,e3⟩:=last_at e
 rcases hv' with ⟨_,h0⟩ | ⟨own,rfl⟩
 ·rw [h0] at e3
  simp at e3
 ·have ll:(t.steps.flatMap StepA.cs).length = t.steps.length * 6:=fm_len StepA.len _
  have w:IntKind.i64.wrap ((a.length:Int) + 1 - 1) = (a.length:Int):=by rw [Int.add_sub_cancel]; exact w64
  have w':IntKind.i64.wrap (a.length:Int) = (a.length:Int):=w64
  have hq:(a.length:Int) < (a.length:Int) + 1:=by omega
  have h1:a.length * 6 < (a.length + 1) * 6:=by omega
  have h2:1 ≤ (a.length + 1) * 6 - a.length * 6:=by omega
  have h3:0 < (a.length + 1) * 6 - a.length * 6:=by omega
  have hat:(a.length:Int) ≤ (a.length:Int) + 1:=by omega
  have hne:¬ a.length = a.length + 1:=by omega
  have htake:(t.steps.flatMap StepA.cs).take (a.length * 6) = a.flatMap StepA.cs:=by
   rw [fm_take StepA.len,e]
   simp
  have hsa:=shutL_flat (n:=0) (t:=0) (f:=StepA.cs) (fun s=>s.shut) a
  have hcut:k ≠ 0→∀ own:Own,EvClosed E (.fn (.func 206) [] []) [.vs own a.length (a.flatMap StepA.cs)] = some (.int .i64 at_):=by
   intro hk0 own
   have:=cut_eq (H.to 206) (v:=.vs own a.length (a.flatMap StepA.cs)) (t:=a) (.inr ⟨own,rfl⟩) (by omega)
   rw [P.cut a x e hk0] at this
   exact this
  have own3:own = .full∨own = .shared∨∃ k s,own = .tok k s:=by cases own <;> simp
  rw [e3] at ll hs ⊢
  rcases P.kind with ⟨rfl,hL,hR⟩ | ⟨rfl,hL⟩ | rfl
  ·refine ⟨.nils,.nils,?_,by rw [hL]; exact .inl ⟨rfl,rfl⟩,by rw [hR]; exact .inl ⟨rfl,rfl⟩⟩
   generalize t.steps.flatMap StepA.cs = ca at *
   simp [f188,start,EvCall_closed H.c170 rfl,EvCall_closed H.c183 rfl,hs,w',hq,ll,h1,h2,h3,e1,htk]
  ·have hc:=hcut (by decide) .shared
   have har:a = t.right:=by rw [ea,hL]; rfl
   refine ⟨.nils,.vs .shared a.length (a.flatMap StepA.cs),?_,by rw [hL]; exact .inl ⟨rfl,rfl⟩,by rw [← har]; exact .inr ⟨_,rfl⟩⟩
   generalize t.steps.flatMap StepA.cs = ca at *
   rcases own3 with rfl | rfl | ⟨_,_,rfl⟩ <;> simp [f188,start,EvCall_closed H.c170 rfl,EvCall_closed H.c183 rfl,EvCall_closed H.c206 rfl,hs,w',hq,ll,h1,h2,h3,e1,htk,hat,htake,hc,hsa]
  ·have hc:=hcut (by decide) .shared
   have hatl:at_ ≤ a.length:=by rw [P.len,ea,List.length_append]; omega
   have hlt:t.left.length = at_:=P.len.symm
   have hta:a.take at_ = t.left:=by rw [ea,← hlt,List.take_left]
   have hda:a.drop at_ = t.right:=by rw [ea,← hlt,List.drop_left]
   have hrl:t.right.length = a.length - at_:=by rw [ea,List.length_append]; omega
   have hat1:(at_:Int) ≤ (a.length:Int) + 1:=by omega
   have hat2:(at_:Int) ≤ (a.length:Int):=by omega
   have hne2:¬ at_ = a.length + 1:=by omega
   have htk2:(t.steps.flatMap StepA.cs).take (at_ * 6) = t.left.flatMap StepA.cs:=by
    rw [fm_take StepA.len,e,List.take_append_of_le_length hatl,hta]
   have hdr:(a.flatMap StepA.cs).drop (at_ * 6) = t.right.flatMap StepA.cs:=by rw [fm_drop StepA.len,hda]
   have hsl:=shutL_flat (n:=0) (t:=0) (f:=StepA.cs) (fun s=>s.shut) t.left
   have hsr:=shutL_flat (n:=0) (t:=0) (f:=StepA.cs) (fun s=>s.shut) t.right
   refine ⟨.vs .shared at_ (t.left.flatMap StepA.cs),.vs .shared (a.length - at_) (t.right.flatMap StepA.cs),?_,.inr ⟨.shared,by rw [hlt]⟩,.inr ⟨.shared,by rw [hrl]⟩⟩
   generalize t.steps.flatMap StepA.cs = ca at *
   rcases own3 with rfl | rfl | ⟨_,_,rfl⟩ <;> simp [f188,start,EvCall_closed H.c170 rfl,EvCall_closed H.c183 rfl,EvCall_closed H.c206 rfl,hs,w',hq,ll,h1,h2,h3,e1,htk,hat,htake,hc,hat1,hat2,hne2,htk2,hdr,hsl,hsr]
def Tr.deep:Tr→Nat
 | .note t _=>t.deep + (if inB 6 t.steps then 1 else 0)
 | .inv t=>t.deep + (if inB 5 t.steps then 1 else 0)
 | .bin o l r=>max (r.deep + (if inB o r.steps then 1 else 0)) l.deep
 | _=>0
theorem deep_le:∀ t:Tr,t.deep ≤ t.steps.length
 | .num _ | .sym _ _ _ | .alone _=>by simp [Tr.deep]
 | .note t _=>by
  have:=deep_le t
  simp only [Tr.deep,Tr.steps,List.length_append,List.length_cons,List.length_nil]
  split <;> omega
 | .inv t=>by
  have:=deep_le t
  simp only [Tr.deep,Tr.steps,List.length_append,List.length_cons,List.length_nil]
  split <;> omega
 | .bin o l r=>by
  have:=deep_le l
  have:=deep_le r
  simp only [Tr.deep,Tr.steps,List.length_append,List.length_cons,List.length_nil]
  split <;> omega
end Go.Pv
