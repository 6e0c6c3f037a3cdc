/- A part of the proof: functions of the program in the evaluator's code, and what they come to. Conditions: none; definitions and theorems that the statement's proof uses. -/
import Derived.Test.YtamopjeecnhfaaaGreatDoorSetwPcParse7
/- Which steps may be: any step. Conditions: the functions' codes; theorems. -/
namespace Go.Pv
variable {E:Env} {h:AHeap}
def symB (p a n:Int):Bool:=decide (0 ≤ a) && (decide (a < atomsT.length) && (decide (-1 ≤ p) && (decide (p < prefsT.length) && (decide (-99 ≤ n) && (decide (n ≤ 99) && (p == -1 || metricT a))))))
def mayB (s:StepA):Bool:=
 if s.op = 1 then decide (1 ≤ s.num) && (s.pfx == -1 && (s.atom == 0 && (s.n == 0 && s.text == [])))
 else if s.op = 2 then symB s.pfx s.atom s.n && (s.num == 0 && s.text == [])
 else if s.op = 3∨s.op = 4∨s.op = 5 then s.pfx == -1 && (s.atom == 0 && (s.n == 0 && (s.num == 0 && s.text == [])))
 else if s.op = 6∨s.op = 7 then printB s.text && (s.pfx == -1 && (s.atom == 0 && (s.n == 0 && s.num == 0)))
 else false
theorem oddAt_lt:∀ s:List UInt8,decide (oddAt s < 0) = printB s
 | []=>rfl
 | c :: s=>by
  have ih:=oddAt_lt s
  simp only [oddAt,printB,List.all_cons] at ih ⊢
  by_cases hc:c.toNat < 32∨126 < c.toNat
  ·rw [if_pos hc]
   have:(decide (32 ≤ c.toNat) && decide (c.toNat ≤ 126)) = false:=by
    rw [Bool.and_eq_false_iff]
    simp only [decide_eq_false_iff_not]
    omega
   rw [this]
   rfl
  ·rw [if_neg hc]
   have:(decide (32 ≤ c.toNat) && decide (c.toNat ≤ 126)) = true:=by
    rw [Bool.and_eq_true]
    simp only [decide_eq_true_eq]
    omega
   rw [this,Bool.true_and,← ih]
   have:=odd_rng s
   generalize oddAt s = o at *
   split
   ·rename_i h; rw [h]
   ·rw [decide_eq_decide]
    omega
where
 odd_rng:∀ s:List UInt8,oddAt s = -1∨0 ≤ oddAt s
  | []=>.inl rfl
  | x :: s=>by
   simp only [oddAt]
   have:=odd_rng s
   split
   ·exact .inr (by decide)
   ·split
    ·exact .inl rfl
    ·exact .inr (by omega)
set_option maxRecDepth 20000 in
set_option maxHeartbeats 4000000 in
theorem symbol200_gen (H:Has 200 E) (o p a n m:Int) (t:List UInt8):EvClosed E (.fn (.func 200) [] []) [.agg (StepA.cs ⟨o,p,a,n,m,t⟩)] = some (.bool (symB p a n)):=by
 rw [EvClosed_eq H.c200 rfl (vs:=[.agg (StepA.cs ⟨o,p,a,n,m,t⟩)]) (by simp [StepA.cs]),EvFn_eq]
 have ht:=table_eq (H.to 38)
 simp only [Tb.V,Tb.A,Tb.P,progB] at ht
 by_cases ha:a < 0
 ·have e:symB p a n = false:=by simp [symB]; omega
  rw [e]
  generalize atomsT.flatMap (acs .shared) = cA at *
  simp [f200,start,StepA.cs,EvCall_closed H.c38 rfl,ht,push_setk,ha]
 obtain ⟨k,rfl⟩:∃ k:Nat,a = k:=⟨a.toNat,by omega⟩
 have d1:decide ((k:Int) < 0) = false:=decide_eq_false ha
 by_cases hkn:atomsT.length ≤ k
 ·have e:symB p k n = false:=by simp [symB]; omega
  have d2:decide ((atomsT.length:Int) ≤ (k:Int)) = true:=decide_eq_true (by omega)
  have d2':atomsT.length ≤ k:=by omega
  rw [e]
  generalize atomsT.flatMap (acs .shared) = cA at *
  simp [f200,start,StepA.cs,EvCall_closed H.c38 rfl,ht,push_setk,d1,d2']
 have hk:k < atomsT.length:=by omega
 have d2:decide ((atomsT.length:Int) ≤ (k:Int)) = false:=decide_eq_false (by omega)
 have d2':¬ atomsT.length ≤ k:=by omega
 have hm0:((atomsT.flatMap (acs .shared)).drop (k * 12 + 5)).take 1 = [.bool (metricT k)]:=by
  have:metricT k = atomsT[k].metric:=by simp [metricT,hk]
  rw [this,fm_at (acs_len .shared) hk (by omega)]
  rfl
 have hlA:(atomsT.flatMap (acs .shared)).length = atomsT.length * 12:=fm_len (acs_len .shared) _
 have hx1:k * 12 < atomsT.length * 12:=by omega
 have hx2:5 < atomsT.length * 12 - k * 12:=by omega
 have hx3:1 ≤ atomsT.length * 12 - (k * 12 + 5):=by omega
 generalize atomsT.flatMap (acs .shared) = cA at *
 by_cases hn:n < -99
 ·have e:symB p k n = false:=by simp [symB]; omega
  rw [e]
  simp [f200,start,StepA.cs,EvCall_closed H.c38 rfl,ht,push_setk,d1,d2',hn]
 have d5:decide (n < -99) = false:=decide_eq_false hn
 by_cases hn2:99 < n
 ·have e:symB p k n = false:=by simp [symB]; omega
  rw [e]
  simp [f200,start,StepA.cs,EvCall_closed H.c38 rfl,ht,push_setk,d1,d2',d5,hn2]
 have d6:decide (99 < n) = false:=decide_eq_false hn2
 have e0:symB p k n = (decide (-1 ≤ p) && (decide (p < prefsT.length) && (p == -1 || metricT k))):=by
  have q1:decide ((0:Int) ≤ (k:Int)) = true:=decide_eq_true (by omega)
  have q2:decide ((k:Int) < (atomsT.length:Int)) = true:=decide_eq_true (by omega)
  have q3:decide (-99 ≤ n) = true:=decide_eq_true (by omega)
  have q4:decide (n ≤ 99) = true:=decide_eq_true (by omega)
  simp only [symB,q1,q2,q3,q4,Bool.true_and]
 rw [e0]
 cases hp:p == -1 with
 | true=>
  have hp':p = -1:=by simpa using hp
  have q1:decide (-1 ≤ p) = true:=decide_eq_true (by omega)
  have q2:decide (p < (prefsT.length:Int)) = true:=decide_eq_true (by omega)
  rw [q1,q2]
  simp [f200,start,StepA.cs,EvCall_closed H.c38 rfl,ht,push_setk,d1,d2',d5,d6,hp]
 | false=>
  have hpn:¬ p = -1:=by simpa using hp
  by_cases hp0:0 ≤ p
  ·have q1:decide (-1 ≤ p) = true:=decide_eq_true (by omega)
   have d3:decide (0 ≤ p) = true:=decide_eq_true hp0
   rw [q1]
   by_cases hp1:p < (prefsT.length:Int)
   ·have d4:decide (p < (prefsT.length:Int)) = true:=decide_eq_true hp1
    rw [d4]
    simp [f200,start,StepA.cs,EvCall_closed H.c38 rfl,ht,push_setk,d1,d2',hp0,d4,d5,d6,hp,hk,hlA,hx1,hx2,hx3,hm0]
   ·have d4:decide (p < (prefsT.length:Int)) = false:=decide_eq_false hp1
    rw [d4]
    simp [f200,start,StepA.cs,EvCall_closed H.c38 rfl,ht,push_setk,d1,d2',hp0,d4,d5,d6,hp]
  ·have q1:decide (-1 ≤ p) = false:=decide_eq_false (by omega)
   have d3:decide (0 ≤ p) = false:=decide_eq_false hp0
   rw [q1]
   simp [f200,start,StepA.cs,EvCall_closed H.c38 rfl,ht,push_setk,d1,d2',hp0,d5,d6,hp]
set_option maxRecDepth 20000 in
set_option maxHeartbeats 4000000 in
theorem may180_gen (H:Has 180 E) (s:StepA):EvClosed E (.fn (.func 180) [] []) [.agg s.cs] = some (.bool (mayB s)):=by
 rw [EvClosed_eq H.c180 rfl (vs:=[.agg s.cs]) (by simp [StepA.cs]),EvFn_eq]
 obtain ⟨o,p,a,n,m,t⟩:=s
 unfold mayB
 by_cases h1:o = 1
 ·subst h1
  cases hm:decide (1 ≤ m) <;> simp [f180,start,StepA.cs,hm]
 by_cases h2:o = 2
 ·subst h2
  have hy:=symbol200_gen (H.to 200) 2 p a n m t
  simp only [StepA.cs] at hy
  cases hs:symB p a n <;> rw [hs] at hy <;> simp [f180,start,StepA.cs,EvCall_closed H.c200 rfl,hy]
 by_cases h3:o = 3∨o = 4∨o = 5
 ·rcases h3 with rfl | rfl | rfl <;> simp [f180,start,StepA.cs]
 by_cases h6:o = 6∨o = 7
 ·have hx:EvClosed E (.fn (.func 202) [] []) [.str t,.fn (.func 201) [] []] = some (.int .i64 (oddAt t)):=by
   rw [EvClosed_ext H.x202 (vs:=[.str t,.fn (.func 201) [] []]) (by simp)]
   rfl
  have hd:=oddAt_lt t
  cases hpr:printB t <;> rw [hpr] at hd <;> rcases h6 with rfl | rfl <;> simp [f180,start,StepA.cs,EvCall_ext H.x202,hx,hd]
 have g1:(o == 1) = false:=by simpa using h1
 have g2:(o == 2) = false:=by simpa using h2
 have g3:(o == 3) = false:=by simp; omega
 have g4:(o == 4) = false:=by simp; omega
 have g5:(o == 5) = false:=by simp; omega
 have g6:(o == 6) = false:=by simp; omega
 have g7:(o == 7) = false:=by simp; omega
 simp [f180,start,StepA.cs,g1,g2,g3,g4,g5,g6,g7,h1,h2,h3,h6]
end Go.Pv
/- The reference's functions on trees: where they are cut, their parts, brackets. Conditions: the functions' codes; theorems. -/
namespace Go.Pv
variable {E:Env}
def cutI (t:List StepA):Nat→Int→Nat
 | 0,_=>0
 | i + 1,need=>if 0 < need then cutI t i (need - 1 + takesI ((t[i]?.map (·.op)).getD 0)) else i + 1
theorem takes_range (o:Int):0 ≤ takesI o∧takesI o ≤ 2:=by
 unfold takesI
 split
 ·omega
 ·split <;> omega
def lastOp (t:List StepA):Int:=((t.getLast?).map (·.op)).getD 0
def looseB (o:Int):Bool:=o == 3 || o == 4 || o == 5
def inB (o:Int) (r:List StepA):Bool:=looseB (lastOp r) || (o == 6 && (lastOp r == 6 || lastOp r == 7))
end Go.Pv
/- The reference's functions on trees: parts, how deep brackets stand. Conditions: the functions' codes; theorems. -/
namespace Go.Pv
variable {E:Env}
def Tr.left:Tr→List StepA
 | .bin _ l _=>l.steps
 | _=>[]
def Tr.right:Tr→List StepA
 | .bin _ _ r=>r.steps
 | .note t _ | .inv t=>t.steps
 | _=>[]
structure PartsAt (t:Tr) (k:Int) (at_:Nat):Prop where
 takes:∀ a x,t.steps = a++[x]→takesI x.op = k
 cut:∀ a x,t.steps = a++[x]→k ≠ 0→cutI a a.length 1 = at_
 len:at_ = t.left.length
 kind:(k = 0∧t.left = []∧t.right = [])∨(k = 1∧t.left = [])∨k = 2
def Tr.deep:Tr→Nat
 | .note t _=>t.deep + (if inB 6 t.steps then 1 else 0)
 | .inv t=>t.deep + (if inB 5 t.steps then 1 else 0)
 | .bin o l r=>max (r.deep + (if inB o r.steps then 1 else 0)) l.deep
 | _=>0
end Go.Pv
/- Which steps may be, and which rows of them are trees: any steps. Conditions: the functions' codes; theorems. -/
namespace Go.Pv
variable {E:Env} {h:AHeap}
end Go.Pv
/- Which rows of steps are trees: any steps. Conditions: the functions' codes; theorems. -/
namespace Go.Pv
variable {E:Env} {h:AHeap}
def walkB:Int→List StepA→Option Int
 | n,[]=>some n
 | n,x :: r=>if (mayB x && decide (takesI x.op ≤ n)) = true then walkB (n - takesI x.op + 1) r else none
def soundB (t:List StepA):Bool:=decide (walkB 0 t = some 1) && decide (t.length ≤ 255)
def stackS (st:List Tr):List StepA:=st.reverse.flatMap Tr.steps
theorem stackS_cons (a:Tr) (st:List Tr):stackS (a :: st) = stackS st++a.steps:=by simp [stackS]
theorem walk_trees:∀ (t:List StepA) (n m:Int) (st:List Tr),(∀ x ∈ t,x.text.length < 1000000)→(∀ a ∈ st,TrOk a)→(st.length:Int) = n→walkB n t = some m →
  ∃ st':List Tr,(st'.length:Int) = m∧(∀ a ∈ st',TrOk a)∧stackS st' = stackS st++t
 | [],n,m,st,_,hst,hn,hw=>by
  simp only [walkB] at hw
  cases hw
  exact ⟨st,hn,hst,by simp⟩
 | x :: r,n,m,st,ht,hst,hn,hw=>by
  simp only [walkB] at hw
  split at hw
  ·rename_i hc
   simp only [Bool.and_eq_true,decide_eq_true_eq] at hc
   obtain ⟨hmay,htk⟩:=hc
   have hr:∀ y ∈ r,y.text.length < 1000000:=fun y hy=>ht y (List.mem_cons_of_mem _ hy)
   have hx:=ht x List.mem_cons_self
   have go:∀ (a:Tr) (st2:List Tr),TrOk a→(∀ b ∈ st2,TrOk b)→(st2.length:Int) + 1 = n - takesI x.op + 1→stackS st2++a.steps = stackS st++[x]→∃ st':List Tr,(st'.length:Int) = m∧(∀ a ∈ st',TrOk a)∧stackS st' = stackS st++x :: r:=by
    intro a st2 ha h2 hl hs
    obtain ⟨st',h3,h4,h5⟩:=walk_trees r (n - takesI x.op + 1) m (a :: st2) hr (fun b hb=>by rcases List.mem_cons.1 hb with rfl | hb; exact ha; exact h2 b hb) (by simp only [List.length_cons]; omega) hw
    exact ⟨st',h3,h4,by rw [h5,stackS_cons,hs]; simp⟩
   obtain ⟨o,p,a,k,nm,tx⟩:=x
   simp only [mayB] at hmay
   split at hmay
   ·rename_i h1
    subst h1
    simp only [Bool.and_eq_true,decide_eq_true_eq,beq_iff_eq] at hmay
    obtain ⟨q1,rfl,rfl,rfl,rfl⟩:=hmay
    exact go (.num nm) st (.num nm q1) hst (by simp [takesI]; omega) rfl
   ·split at hmay
    ·rename_i h2
     subst h2
     simp only [symB,Bool.and_eq_true,decide_eq_true_eq,beq_iff_eq,Bool.or_eq_true] at hmay
     obtain ⟨⟨q1,q2,q3,q4,q5,q6,q7⟩,rfl,rfl⟩:=hmay
     exact go (.sym p a k) st (.sym p a k q1 q2 q3 q4 q5 q6 q7) hst (by simp [takesI]; omega) rfl
    ·split at hmay
     ·rename_i h345
      simp only [Bool.and_eq_true,beq_iff_eq] at hmay
      obtain ⟨rfl,rfl,rfl,rfl,rfl⟩:=hmay
      by_cases h5:o = 5
      ·subst h5
       have e5:takesI 5 = 1:=rfl
       simp only [e5] at htk go
       cases st with
       | nil=>simp at hn; omega
       | cons b st=>
        exact go (.inv b) st (.inv b (hst b List.mem_cons_self)) (fun c hc=>hst c (List.mem_cons_of_mem _ hc)) (by simp only [List.length_cons] at hn; omega) (by rw [stackS_cons]; simp [Tr.steps,stepO])
      ·have e2:takesI o = 2:=by rcases h345 with rfl | rfl | rfl <;> first | rfl | exact absurd rfl h5
       have ho:o = 3∨o = 4:=by omega
       simp only [e2] at htk go
       cases st with
       | nil=>simp at hn; omega
       | cons c st=>
        cases st with
        | nil=>simp at hn; omega
        | cons b st=>
         exact go (.bin o b c) st (.bin o b c ho (hst b (List.mem_cons_of_mem _ List.mem_cons_self)) (hst c List.mem_cons_self)) (fun d hd=>hst d (List.mem_cons_of_mem _ (List.mem_cons_of_mem _ hd))) (by simp only [List.length_cons] at hn; omega) (by rw [stackS_cons,stackS_cons]; simp [Tr.steps,stepO])
     ·split at hmay
      ·rename_i h67
       simp only [Bool.and_eq_true,beq_iff_eq] at hmay
       obtain ⟨q1,rfl,rfl,rfl,rfl⟩:=hmay
       rcases h67 with rfl | rfl
       ·have e6:takesI 6 = 1:=rfl
        simp only [e6] at htk go
        cases st with
        | nil=>simp at hn; omega
        | cons b st=>
         exact go (.note b tx) st (.note b tx (hst b List.mem_cons_self) q1 hx) (fun c hc=>hst c (List.mem_cons_of_mem _ hc)) (by simp only [List.length_cons] at hn; omega) (by rw [stackS_cons]; simp [Tr.steps])
       ·exact go (.alone tx) st (.alone tx q1 hx) hst (by simp [takesI]; omega) rfl
      ·cases hmay
  ·cases hw
theorem sound_tree {t:List StepA} (ht:∀ x ∈ t,x.text.length < 1000000) (h:soundB t = true):∃ tr:Tr,TrOk tr∧tr.steps = t∧t.length ≤ 255:=by
 simp only [soundB,Bool.and_eq_true,decide_eq_true_eq] at h
 obtain ⟨st,h1,h2,h3⟩:=walk_trees t 0 1 [] ht (fun a ha=>by cases ha) rfl h.1
 cases st with
 | nil=>simp at h1
 | cons a st=>
  cases st with
  | nil=>exact ⟨a,h2 a List.mem_cons_self,by simpa [stackS] using h3,h.2⟩
  | cons b st=>simp only [List.length_cons] at h1; omega
theorem put178_gen (H:Has 178 E) (s:StepA) {b:Nat} {n:Int} (hb:h.bl b = some (.cells [.int .i64 n])) (hro:h.ro = 0) (h0:0 ≤ n) (hn2:n < 1000000):
  EvCall E (.fn (.func 178) [] [.ref b 0]) [.agg s.cs] h = some (.ret (.bool (mayB s && decide (takesI s.op ≤ n))),(h.push (.cells s.cs)).setBlk b (.cells [.int .i64 (n + (1 - takesI s.op))])):=by
 rw [EvCall_open H.c178 rfl,EvFn_eq]
 have ht:=takes179_eq (H.to 179) s
 have hm:=may180_gen (H.to 180) s
 have hr:=takes_range s.op
 have w1:IntKind.i64.wrap (1 - takesI s.op) = 1 - takesI s.op:=w64
 have w2:IntKind.i64.wrap (n + (1 - takesI s.op)) = n + (1 - takesI s.op):=w64
 have nb:=blk_ne hb
 simp only [StepA.cs] at ht hm ⊢
 generalize takesI s.op = k at *
 cases hmb:mayB s <;> rw [hmb] at hm <;> cases hd:decide (k ≤ n) <;> simp [f178,start,EvCall_closed H.c179 rfl,EvCall_closed H.c180 rfl,ht,hm,hb,hro,nb,hd,w1,w2]
set_option maxHeartbeats 2000000 in
theorem sound168_all (H:Has 168 E) {own:Own} {t:List StepA} (hl:t.length < 1000000):∀ (m i:Nat),i + m = t.length→∀ (n:Int) (h:AHeap),0 ≤ n→n ≤ i→h.bl 0 = some (.cells [.int .i64 n])→h.ro = 0 →
  ∃ h',(∀ F,mask k168_0 F = s168_0 (.vs own t.length (t.flatMap StepA.cs)) (.ref 0 0) (.fn (.func 178) [] [.ref 0 0]) (.vs own t.length (t.flatMap StepA.cs)) (.int .i64 t.length) (.int .i64 i) →
   EvCode E (.loop k168_0 l168_0) F h = some (match walkB n (t.drop i) with | some _=>(.exit 0,x168_0 (.vs own t.length (t.flatMap StepA.cs)) (.ref 0 0),h') | none=>(.ret,r168 (.bool false),h')))∧(∀ k,walkB n (t.drop i) = some k→h'.bl 0 = some (.cells [.int .i64 k]))
 | 0,i,hi,n,h,hn,hni,hb,hro=>by
  have:i = t.length:=by omega
  subst this
  rw [List.drop_length]
  simp only [walkB]
  refine ⟨h,fun F hF=>?_,fun k hk=>by cases hk; exact hb⟩
  rw [EvCode_loop,hF]
  simp [l168_0,s168_0,x168_0]
 | m + 1,i,hi,n,h,hn,hni,hb,hro=>by
  have hlt:i < t.length:=by omega
  rw [List.drop_eq_getElem_cons hlt]
  simp only [walkB]
  have hr:=takes_range t[i].op
  have e:n + (1 - takesI t[i].op) = n - takesI t[i].op + 1:=by omega
  have h0:(h.push (.cells t[i].cs)).bl 0 = some (.cells [.int .i64 n]):=by
   rw [bl_push,if_neg (blk_ne hb)]
   exact hb
  have hput:=put178_gen (H.to 178) t[i] h0 (by simpa using hro) hn (by omega)
  rw [e] at hput
  have e6:((t.flatMap StepA.cs).drop (i * 6)).take 6 = t[i].cs:=fm_el StepA.len hlt
  have ll:(t.flatMap StepA.cs).length = t.length * 6:=fm_len StepA.len t
  have hd:decide ((i:Int) < (t.length:Int)) = true:=decide_eq_true (by omega)
  have h6:6 ≤ t.length * 6 - i * 6:=by omega
  have h60:i * 6 < t.length * 6:=by omega
  have w1:IntKind.i64.wrap ((i:Int) + 1) = (i:Int) + 1:=w64
  have cl:t[i].cs.length = 6:=StepA.len _
  have ca6:=List.all_eq_true.1 (StepA.all t[i])
  have ctake:t[i].cs.take 6 = t[i].cs:=by rw [List.take_of_length_le (by rw [StepA.len]; exact Nat.le_refl _)]
  have cset:setCells 0 t[i].cs [.int .i64 0,.int .i64 0,.int .i64 0,.int .i64 0,.int .i64 0,.str []] = t[i].cs:=setCells_app t[i].cs [.int .i64 0,.int .i64 0,.int .i64 0,.int .i64 0,.int .i64 0,.str []] [] (by rw [StepA.len]; rfl)
  cases hc:(mayB t[i] && decide (takesI t[i].op ≤ n)) with
  | false=>
   rw [hc] at hput
   simp only [Bool.false_eq_true,if_false]
   refine ⟨((h.push (.cells t[i].cs)).push (.cells t[i].cs)).setBlk 0 (.cells [.int .i64 (n - takesI t[i].op + 1)]),fun F hF=>?_,fun k hk=>by cases hk⟩
   rw [EvCode_loop,hF]
   generalize t[i].cs = cc at *
   generalize t.flatMap StepA.cs = ca at *
   simp [l168_0,s168_0,hlt,ll,h6,h60,e6,cl,cset,push_setk,hro]
   rw [if_pos ca6]
   simp [cl,ctake,hput]
   rfl
  | true=>
   rw [hc] at hput
   have hle:takesI t[i].op ≤ n:=by
    simp only [Bool.and_eq_true,decide_eq_true_eq] at hc
    exact hc.2
   simp only [if_true]
   obtain ⟨h',ih,hb'⟩:=sound168_all H (own:=own) hl m (i + 1) (by omega) (n - takesI t[i].op + 1) (((h.push (.cells t[i].cs)).push (.cells t[i].cs)).setBlk 0 (.cells [.int .i64 (n - takesI t[i].op + 1)])) (by omega) (by omega) (by simp; exact fun _=>⟨_,hb⟩) (by simpa using hro)
   refine ⟨h',fun F hF=>?_,hb'⟩
   rw [EvCode_loop,hF]
   generalize t[i].cs = cc at *
   generalize t.flatMap StepA.cs = ca at *
   generalize EvCode E (.loop k168_0 l168_0) = lp at ih ⊢
   simp [l168_0,s168_0,hlt,ll,h6,h60,e6,cl,cset,push_setk,hro]
   rw [if_pos ca6]
   simp [cl,ctake,hput,w1]
   refine ih _ ?_
   simp [s168_0]
theorem sound168_gen (H:Has 168 E) {v:AV} {t:List StepA} (hv:TreeV v t) (hl:t.length < 1000000):EvClosed E (.fn (.func 168) [] []) [v] = some (.bool (soundB t)):=by
 obtain ⟨v',sv,hv'⟩:=tree_shut hv
 rw [EvClosed_eq H.c168 rfl (vs:=[v']) (by simp [sv]),EvFn_eq]
 rcases hv' with ⟨rfl,rfl⟩ | ⟨own,rfl⟩
 ·simp [f168,start,push_setk]
  rw [EvCode_loop]
  simp [l168_0,k168_0,soundB,walkB]
 ·obtain ⟨h',lp,hb⟩:=sound168_all (E:=E) H (own:=own) hl t.length 0 (by omega) 0 (heap0.push (.cells [.int .i64 0])) (by omega) (by omega) (by simp) (by simp)
  rw [List.drop_zero] at lp hb
  simp [f168,start,push_setk]
  rw [lp _ (by simp [s168_0])]
  unfold soundB
  cases hw:walkB 0 t with
  | none=>simp [r168]
  | some k=>
   have hb:=hb k hw
   cases hk:k == 1
   ·have hk':¬ k = 1:=by simpa using hk
    simp [x168_0,hb,hk,hk']
   ·have hk':k = 1:=by simpa using hk
    subst hk'
    cases hd:decide ((t.length:Int) ≤ 255)
    ·have hd':¬ t.length ≤ 255:=by simp at hd; omega
     simp [x168_0,hb,hd,hd']
    ·have hd':t.length ≤ 255:=by simp at hd; omega
     simp [x168_0,hb,hd,hd']
end Go.Pv
