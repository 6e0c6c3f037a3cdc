/- A part of the proof: functions of the program in the evaluator's code, and what they come to. Conditions: none; definitions and theorems that the statement's proof uses. -/
import Derived.Test.YteiaohbhlapklaaGreatDoorSettPcEnds
/- What is parsed can be told, and is printed no longer, with no more brackets. Conditions: none; definitions and theorems. -/
namespace Go.Pv
variable {x sz:Int}
theorem digS_len:∀ (f m n:Nat),n < 10 ^ (m + 1)→(digitsS f n).length ≤ m + 1
 | 0,m,n,h=>by simp [digitsS]
 | f + 1,m,n,h=>by
  simp only [digitsS]
  split
  ·simp
  ·cases m with
   | zero=>simp at h; omega
   | succ m=>
    have hp:(10:Nat) ^ (m + 1 + 1) = 10 ^ (m + 1) * 10:=Nat.pow_succ ..
    have:=digS_len f m (n / 10) (by omega)
    simp only [List.length_append,List.length_cons,List.length_nil]
    omega
theorem dvalF_lt:∀ (d:List UInt8) (n:Nat),digits d→dvalF n d < (n + 1) * 10 ^ d.length
 | [],n,_=>by
  have h0:dvalF n [] = n:=rfl
  rw [h0]
  simp
 | c :: d,n,h=>by
  have h1:dvalF n (c :: d) = dvalF (n * 10 + dig c) d:=rfl
  have hc:=(dig_lt (h c List.mem_cons_self)).2.2
  have ih:=dvalF_lt d (n * 10 + dig c) (fun a ha=>h a (List.mem_cons_of_mem _ ha))
  rw [h1,List.length_cons,Nat.pow_succ]
  have h2:(n * 10 + dig c + 1) * 10 ^ d.length ≤ ((n + 1) * 10) * 10 ^ d.length:=Nat.mul_le_mul_right _ (by omega)
  have h3:((n + 1) * 10) * 10 ^ d.length = (n + 1) * (10 ^ d.length * 10):=by rw [Nat.mul_assoc,Nat.mul_comm 10]
  omega
theorem dec_short {d:List UInt8} (hd:digits d) (hne:d ≠ []):(decSt (dvalF 0 d)).length ≤ d.length:=by
 have h:=dvalF_lt d 0 hd
 rw [Nat.zero_add,Nat.one_mul] at h
 cases d with
 | nil=>exact absurd rfl hne
 | cons c r=>exact digS_len 18 r.length _ h
structure TokQ (x:Int) (k:Tok):Prop where
 num:k.kind = 2→∃ n:Nat,k.n = n∧(decSt n).length ≤ k.text.length
 note:k.kind = 9→plain x k.text = true∧k.text.length < 1000000
 pos:k.kind ≠ 0→1 ≤ sizeT k
abbrev GoodQ (x:Int) (l:List Tok):Prop:=∀ k ∈ l,TokQ x k
theorem next_q {s:List UInt8} {p:Int} {k n:Int} {t:List UInt8} {l:Nat} (hl:s.length < 900000) (h:nextS x s = some (k,t,n,l)):TokQ x ⟨k,p,t,n⟩:=by
 have h1:=(next_len h).1
 have h2:=next_size h p
 have h3:=(next_len h).2
 refine ⟨fun hk=>?_,fun hk=>?_,fun _=>by rw [h2]; exact h1⟩
 ·simp only at hk
  subst hk
  cases s with
  | nil=>cases h
  | cons c r=>
   simp only [nextS] at h
   split at h
   ·cases h
   ·split at h
    ·simp at h
    ·split at h
     ·rename_i hk2
      cases hn:numOf ((c :: r).take (runL x 2 (c :: r))) with
      | none=>rw [hn] at h; cases h
      | some v=>
       rw [hn] at h
       simp only [Option.map_some,Option.some.injEq,Prod.mk.injEq,true_and] at h
       obtain ⟨rfl,rfl,rfl⟩:=h
       have hv:dvalF 0 ((c :: r).take (runL x 2 (c :: r))) = v:=by
        unfold numOf at hn
        split at hn
        ·exact Option.some.inj hn
        ·cases hn
       refine ⟨v,rfl,?_⟩
       rw [← hv]
       refine dec_short (run_digits x (c :: r)) ?_
       intro e
       have:=congrArg List.length e
       rw [List.length_take] at this
       simp only [List.length_nil,List.length_cons] at this
       omega
     ·split at h
      ·cases hn:noteS x r with
       | none=>rw [hn] at h; cases h
       | some v=>rw [hn] at h; simp at h
      ·rename_i q _
       simp only [Option.some.injEq,Prod.mk.injEq] at h
       obtain ⟨e,_⟩:=h
       rw [e] at q
       exact absurd rfl q
 ·simp only at hk
  subst hk
  cases s with
  | nil=>cases h
  | cons c r=>
   simp only [nextS] at h
   split at h
   ·cases h
   ·split at h
    ·simp at h
    ·split at h
     ·cases hn:numOf ((c :: r).take (runL x 2 (c :: r))) with
      | none=>rw [hn] at h; cases h
      | some v=>rw [hn] at h; simp at h
     ·split at h
      ·cases hn:noteS x r with
       | none=>rw [hn] at h; cases h
       | some v=>
        rw [hn] at h
        simp only [Option.map_some,Option.some.injEq,Prod.mk.injEq,true_and] at h
        obtain ⟨rfl,_,e⟩:=h
        have hv:plain x v = true:=by
         unfold noteS at hn
         simp only at hn
         split at hn
         ·rename_i hq
          rw [Bool.and_eq_true] at hq
          cases hn
          exact hq.2
         ·cases hn
        exact ⟨hv,by simp only; omega⟩
      ·rename_i q
       simp only [Option.some.injEq,Prod.mk.injEq] at h
       obtain ⟨e,_⟩:=h
       rw [e] at q
       exact absurd rfl q
theorem lex_q (x:Int):∀ (f:Nat) (s:List UInt8) (p:Nat),s.length < 900000→GoodQ x (lexF x f s p).1
 | 0,s,p,_=>fun k hk=>by simp [lexF] at hk
 | f + 1,s,p,hs=>by
  simp only [lexF]
  cases h:nextS x s with
  | none=>intro k hk; simp at hk
  | some g=>
   obtain ⟨k,t,n,l⟩:=g
   intro k' hk
   rcases List.mem_cons.1 hk with rfl | hk
   ·exact next_q hs h
   ·exact lex_q x f (s.drop l) (p + l) (by rw [List.length_drop]; omega) k' hk
def sizeL (l:List Tok):Nat:=(l.map sizeT).sum
theorem sizeL_app (a b:List Tok):sizeL (a++b) = sizeL a + sizeL b:=by simp [sizeL]
theorem sizeL_cons (k:Tok) (b:List Tok):sizeL (k :: b) = sizeT k + sizeL b:=by simp [sizeL]
theorem sizeL_nil:sizeL [] = 0:=rfl
theorem size_text {k:Tok} (h:k.kind ≠ 9):sizeT k = k.text.length:=by
 have h':(k.kind == 9) = false:=by simpa using h
 simp [sizeT,h']
theorem left_ne {k:Tok} (h:k.kind ≠ 7) (l:List Tok):leftC (k :: l) = leftC l:=by simp [leftC,h]
theorem brkD_len (b:Bool) (s:List UInt8):(brkD b s).length = s.length + if b then 2 else 0:=by cases b <;> simp [brkD]
def Cost (x:Int) (r:Nat) (b:Bool) (tr:Tr) (c:List Tok):Prop:=
 tr.deep + (if b then 1 else 0) ≤ r∧(ptext x tr).length + (if b then 2 else 0) ≤ sizeL c∧tr.brks + (if b then 1 else 0) ≤ leftC c
theorem Cost.less {r:Nat} {b b':Bool} {tr:Tr} {c:List Tok} (h:Cost x r b tr c) (hb:b' = true→b = true):Cost x r b' tr c:=by
 obtain ⟨h1,h2,h3⟩:=h
 cases b <;> cases b' <;> simp [Cost] at * <;> omega
def OutQ (x:Int) (B:List StepA→Bool) (r:Nat) (l:List Tok) (u:Option Tok):Res (List StepA)→Prop
 | .ok (t,l',u')=>∃ c,l = c++l'∧(u' = none→u = none∧∃ tr,Tr.steps tr = t∧TrOk tr∧tr.fits∧tr.told x∧Cost x r (B t) tr c)
 | .error e=>e.1 = 13∨e.1 = 14
def bB (t:List StepA):Bool:=inB 6 t
def bI (t:List StepA):Bool:=looseB (lastOp t)
def bM (_:List StepA):Bool:=false
theorem bI_bB {t:List StepA} (h:bI t = true):bB t = true:=by
 unfold bI at h
 simp [bB,inB,h]
theorem GoodQ.tail {c l':List Tok} (h:GoodQ x (c++l')):GoodQ x l':=fun k hk=>h k (List.mem_append_right _ hk)
theorem numP_q {lo hi:Int} {l:List Tok} {n:Int} {l':List Tok} (hg:GoodQ x l) (h:numP sz lo hi l = .ok (n,l')):∃ k,l = k :: l'∧k.kind = 2∧lo ≤ n∧n ≤ hi∧(decSt n.toNat).length ≤ sizeT k:=by
 cases l with
 | nil=>cases h
 | cons t r=>
  simp only [numP] at h
  split at h
  ·rename_i hq
   simp only [Bool.and_eq_true,beq_iff_eq,decide_eq_true_eq] at hq
   cases h
   obtain ⟨m,h1,h2⟩:=(hg t List.mem_cons_self).num hq.1.1
   refine ⟨t,rfl,hq.1.1,hq.1.2,hq.2,?_⟩
   rw [size_text (by rw [hq.1.1]; decide),h1]
   exact h2
  ·cases h
theorem powN_q {l:List Tok} {n:Int} {l':List Tok} (hg:GoodQ x l) (h:powN sz l = .ok (n,l')):∃ c,l = c++l'∧-99 ≤ n∧n ≤ 99∧(if n < 0 then 45 :: decSt (-n).toNat else decSt n.toNat).length ≤ sizeL c∧leftC c = 0:=by
 cases l with
 | nil=>cases h
 | cons t r=>
  simp only [powN] at h
  split at h
  ·rename_i h3
   have h3':t.kind = 3:=by simpa using h3
   cases hq:numP sz 0 99 r with
   | error e=>rw [hq] at h; cases h
   | ok v=>
    obtain ⟨m,r'⟩:=v
    rw [hq] at h
    simp only at h
    obtain ⟨k,e,hk,n0,n1,hl⟩:=numP_q (fun k hk=>hg k (List.mem_cons_of_mem _ hk)) hq
    cases h
    have ht:=(hg t List.mem_cons_self).pos (by rw [h3']; decide)
    refine ⟨[t,k],by rw [e]; rfl,?_,?_,?_,by rw [left_ne (by rw [h3']; decide),left_ne (by rw [hk]; decide)]; rfl⟩
    ·split <;> omega
    ·split <;> omega
    ·rw [sizeL_cons,sizeL_cons,sizeL_nil]
     split
     ·by_cases hm:m = 0
      ·subst hm
       simp only [Int.neg_zero,Int.lt_irrefl,if_false]
       omega
      ·rw [if_pos (by omega),Int.neg_neg,List.length_cons]
       omega
     ·rw [if_neg (by omega)]
      omega
  ·obtain ⟨k,e,hk,n0,n1,hl⟩:=numP_q hg h
   refine ⟨[k],e,by omega,by omega,?_,by rw [left_ne (by rw [hk]; decide)]; rfl⟩
   rw [sizeL_cons,sizeL_nil,if_neg (by omega)]
   omega
theorem powP_q {l:List Tok} {n:Int} {l':List Tok} (hg:GoodQ x l) (h:powP ((sty x).pow != 0) sz l = .ok (n,l')):∃ c,l = c++l'∧-99 ≤ n∧n ≤ 99∧(powT (sty x) n).length ≤ sizeL c∧leftC c = 0:=by
 have one:powT (sty x) 1 = []:=rfl
 cases hp:(sty x).pow != 0 with
 | true=>
  rw [hp] at h
  simp only [powP,if_true] at h
  split at h
  ·rename_i h6
   cases l with
   | nil=>simp [isT] at h6
   | cons t r=>
    have hk:t.kind = 6:=by simpa [isT] using h6
    obtain ⟨c,e,n0,n1,hl,h0⟩:=powN_q (fun k hk=>hg k (List.mem_cons_of_mem _ hk)) h
    have ht:=(hg t List.mem_cons_self).pos (by rw [hk]; decide)
    have e':r = c++l':=e
    refine ⟨t :: c,by rw [e']; rfl,n0,n1,?_,by rw [left_ne (by rw [hk]; decide)]; exact h0⟩
    rw [sizeL_cons]
    unfold powT
    rw [hp]
    split
    ·simp
    ·simp only [if_true,List.length_append,List.length_cons,List.length_nil]
     omega
  ·cases h
   exact ⟨[],rfl,by decide,by decide,by rw [one]; simp,rfl⟩
 | false=>
  rw [hp] at h
  simp only [powP,Bool.false_eq_true,if_false] at h
  split at h
  ·obtain ⟨c,e,n0,n1,hl,h0⟩:=powN_q hg h
   refine ⟨c,e,n0,n1,?_,h0⟩
   unfold powT
   rw [hp]
   split
   ·simp
   ·simpa using hl
  ·cases h
   exact ⟨[],rfl,by decide,by decide,by rw [one]; simp,rfl⟩
theorem numP_e {lo hi:Int} {l:List Tok} {e:PErr} (h:numP sz lo hi l = .error e):e.1 = 13∨e.1 = 14:=by
 cases l with
 | nil=>cases h; exact .inr rfl
 | cons t r=>
  simp only [numP] at h
  split at h
  ·cases h
  ·cases h; exact .inr rfl
theorem powN_e {l:List Tok} {e:PErr} (h:powN sz l = .error e):e.1 = 13∨e.1 = 14:=by
 cases l with
 | nil=>cases h; exact .inr rfl
 | cons t r=>
  simp only [powN] at h
  split at h
  ·cases hq:numP sz 0 99 r with
   | error e'=>rw [hq] at h; cases h; exact numP_e hq
   | ok v=>rw [hq] at h; cases h
  ·exact numP_e h
theorem powP_e {pw:Bool} {l:List Tok} {e:PErr} (h:powP pw sz l = .error e):e.1 = 13∨e.1 = 14:=by
 unfold powP at h
 split at h
 ·split at h
  ·exact powN_e h
  ·cases h
 ·split at h
  ·exact powN_e h
  ·cases h
theorem symP_q {r0:Nat} {t:Tok} {r:List Tok} {u:Option Tok} (ht:t.kind = 1) (hg:GoodQ x (t :: r)):OutQ x bB r0 (t :: r) u (symP x sz t r u):=by
 unfold symP
 cases hq:powP ((sty x).pow != 0) sz r with
 | error e=>exact powP_e hq
 | ok v=>
  obtain ⟨n,r'⟩:=v
  obtain ⟨c,e,n0,n1,hl,h0⟩:=powP_q (fun k hk=>hg k (List.mem_cons_of_mem _ hk)) hq
  refine ⟨t :: c,by rw [e]; rfl,fun hu=>?_⟩
  unfold unkP at hu
  split at hu
  ·cases hu
  ·rename_i hne
   subst hu
   have hok:(findB (x - 1).toNat atomsT prefsT t.text).2.2 = true:=by
    cases hf:(findB (x - 1).toNat atomsT prefsT t.text).2.2
    ·rw [hf] at hne; simp at hne
    ·rfl
   obtain ⟨p,a,ef,a0,a1,p0,p1,hm⟩:=find_ok hok
   obtain ⟨a',p',ha',hp',hq',hst,htb⟩:=find_told hok
   have htb':=htb
   simp only [toldB,Bool.and_eq_true,beq_iff_eq] at htb'
   obtain ⟨_,_,e1,e2⟩:=htb'
   obtain rfl:p = p':=by rw [← e1,ef]
   obtain rfl:a = (a':Int):=by rw [← e2,ef]
   rw [ef]
   have hsy:symD x p (a':Int) = t.text:=hst
   refine ⟨rfl,.sym p a' n,rfl,.sym p a' n a0 a1 p0 p1 n0 n1 hm,trivial,?_,?_⟩
   ·show toldD x p a' = true
    unfold toldD
    rw [hsy]
    exact htb
   ·have hb:bB (Tr.sym p a' n).steps = false:=by simp [bB,inB,looseB,lastOp,Tr.steps]
    refine ⟨?_,?_,?_⟩
    ·show _ + (if bB (Tr.sym p a' n).steps then 1 else 0) ≤ _
     rw [hb]; simp [Tr.deep]
    ·show _ + (if bB (Tr.sym p a' n).steps then 2 else 0) ≤ _
     rw [hb,sizeL_cons,size_text (by rw [ht]; decide)]
     simp only [ptext,hsy,List.length_append,Bool.false_eq_true,if_false]
     omega
    ·show _ + (if bB (Tr.sym p a' n).steps then 1 else 0) ≤ _
     rw [hb]; simp [Tr.brks]
section
variable {inner:List Tok→Option Tok→Res (List StepA)} {r0:Nat}
abbrev InnerQ (x:Int) (r0:Nat) (inner:List Tok→Option Tok→Res (List StepA)):Prop:=∀ t r u,t.kind = 7→GoodQ x (t :: r)→OutQ x bB r0 (t :: r) u (inner (t :: r) u)
theorem baseP_q (hi:InnerQ x r0 inner) (l:List Tok) (u:Option Tok) (hg:GoodQ x l):OutQ x bB r0 l u (baseP x sz inner l u):=by
 cases l with
 | nil=>exact .inr rfl
 | cons t r=>
  simp only [baseP]
  split
  ·rename_i h1
   exact symP_q (by simpa using h1) hg
  ·split
   ·cases hq:numP sz 1 maxNum (t :: r) with
    | error e=>exact numP_e hq
    | ok v=>
     obtain ⟨n,l'⟩:=v
     obtain ⟨k,e,hk,n0,n1,hl⟩:=numP_q hg hq
     refine ⟨[k],e,fun hu=>⟨hu,.num n,rfl,.num n n0,n1,trivial,?_⟩⟩
     have hb:bB (Tr.num n).steps = false:=by simp [bB,inB,looseB,lastOp,Tr.steps]
     refine ⟨?_,?_,?_⟩
     ·show _ + (if bB (Tr.num n).steps then 1 else 0) ≤ _
      rw [hb]; simp [Tr.deep]
     ·show _ + (if bB (Tr.num n).steps then 2 else 0) ≤ _
      rw [hb,sizeL_cons,sizeL_nil]
      simpa [ptext] using hl
     ·show _ + (if bB (Tr.num n).steps then 1 else 0) ≤ _
      rw [hb]; simp [Tr.brks]
   ·split
    ·rename_i h7
     exact hi t r u (by simpa using h7) hg
    ·exact .inr rfl
theorem cost_note {tr:Tr} {w:List UInt8} {c:List Tok} {k:Tok} (h:Cost x r0 (bB tr.steps) tr c) (hk:k.kind = 9) (hw:k.text = w):Cost x r0 (bI (Tr.note tr w).steps) (.note tr w) (c++[k]):=by
 obtain ⟨h1,h2,h3⟩:=h
 have hb:bI (Tr.note tr w).steps = false:=by simp [bI,looseB,lastOp,Tr.steps]
 have hk7:¬ k.kind = 7:=by rw [hk]; decide
 have hsz:sizeT k = w.length + 2:=by simp [sizeT,hk,hw]
 rw [hb]
 unfold bB at h1 h2 h3
 refine ⟨?_,?_,?_⟩
 ·simp only [Tr.deep,Bool.false_eq_true,if_false]
  omega
 ·simp only [ptext,List.length_append,brkD_len,noteD_len,Bool.false_eq_true,if_false]
  rw [sizeL_app,sizeL_cons,sizeL_nil,hsz]
  omega
 ·simp only [Tr.brks,left_app,leftC,hk7,Bool.false_eq_true,if_false]
  omega
theorem itemB_q (hi:InnerQ x r0 inner) (l:List Tok) (u:Option Tok) (hg:GoodQ x l):OutQ x bI r0 l u (itemB x sz inner l u):=by
 have h:=baseP_q (sz:=sz) hi l u hg
 unfold itemB
 cases hq:baseP x sz inner l u with
 | error e=>rw [hq] at h; exact h
 | ok v=>
  obtain ⟨t,l',u'⟩:=v
  rw [hq] at h
  obtain ⟨c,e,hu⟩:=h
  have plain_:OutQ x bI r0 l u (.ok (t,l',u')):=⟨c,e,fun h=>by
   obtain ⟨h1,tr,h2,h3,h4,h5,h6⟩:=hu h
   exact ⟨h1,tr,h2,h3,h4,h5,h6.less bI_bB⟩⟩
  cases l' with
  | nil=>exact plain_
  | cons k r=>
   simp only [noteP]
   split
   ·rename_i h9
    have h9':k.kind = 9:=by simpa using h9
    obtain ⟨n1,n2⟩:=(hg k (by rw [e]; simp)).note h9'
    refine ⟨c++[k],by rw [e]; simp,fun h=>?_⟩
    obtain ⟨h1,tr,h2,h3,h4,h5,h6⟩:=hu h
    subst h2
    exact ⟨h1,.note tr k.text,rfl,.note tr _ h3 (plain_print n1) n2,h4,⟨h5,n1⟩,cost_note h6 h9' rfl⟩
   ·exact plain_
theorem itemP_q (hi:InnerQ x r0 inner) (l:List Tok) (u:Option Tok) (hg:GoodQ x l):OutQ x bI r0 l u (itemP x sz inner l u):=by
 cases l with
 | nil=>exact itemB_q hi [] u hg
 | cons t r=>
  simp only [itemP]
  split
  ·rename_i h9
   have h9':t.kind = 9:=by simpa using h9
   obtain ⟨n1,n2⟩:=(hg t List.mem_cons_self).note h9'
   refine ⟨[t],rfl,fun hu=>⟨hu,.alone t.text,rfl,.alone _ (plain_print n1) n2,trivial,n1,?_⟩⟩
   have hb:bI (Tr.alone t.text).steps = false:=by simp [bI,looseB,lastOp,Tr.steps]
   refine ⟨?_,?_,?_⟩
   ·show _ + (if bI (Tr.alone t.text).steps then 1 else 0) ≤ _
    rw [hb]; simp [Tr.deep]
   ·show _ + (if bI (Tr.alone t.text).steps then 2 else 0) ≤ _
    have hsz:sizeT t = t.text.length + 2:=by simp [sizeT,h9']
    rw [hb,sizeL_cons,sizeL_nil,hsz]
    simp [ptext,noteD]
   ·show _ + (if bI (Tr.alone t.text).steps then 1 else 0) ≤ _
    rw [hb]; simp [Tr.brks]
  ·exact itemB_q hi (t :: r) u hg
theorem in_loose {o:Int} (ho:o = 3∨o = 4∨o = 5) (t:List StepA):inB o t = bI t:=by
 unfold inB bI
 rcases ho with rfl | rfl | rfl <;> simp
theorem loopP_q (hi:InnerQ x r0 inner):∀ (f:Nat) (t:List StepA) (l:List Tok) (u:Option Tok) (c:List Tok) (u0:Option Tok),GoodQ x (c++l) →
  (u = none→u0 = none∧∃ tr,Tr.steps tr = t∧TrOk tr∧tr.fits∧tr.told x∧Cost x r0 false tr c)→OutQ x bM r0 (c++l) u0 (loopP x sz inner f t l u)
 | 0,t,l,u,c,u0,hg,hu=>⟨c,rfl,hu⟩
 | f + 1,t,[],u,c,u0,hg,hu=>⟨c,rfl,hu⟩
 | f + 1,t,k :: r,u,c,u0,hg,hu=>by
  simp only [loopP]
  split
  ·rename_i h45
   have hkd:k.kind = 4∨k.kind = 5:=by simpa using h45
   have hgr:GoodQ x r:=fun k' hk'=>hg k' (List.mem_append_right _ (List.mem_cons_of_mem _ hk'))
   have h:=itemP_q (sz:=sz) hi r u hgr
   cases hq:itemP x sz inner r u with
   | error e=>rw [hq] at h; exact h
   | ok v=>
    obtain ⟨t',l',u'⟩:=v
    rw [hq] at h
    obtain ⟨c',e,hu'⟩:=h
    have el:c++k :: r = (c++k :: c')++l':=by rw [e]; simp
    have hkp:=(hg k (by simp)).pos (by rcases hkd with e | e <;> rw [e] <;> decide)
    rw [el] at hg ⊢
    refine loopP_q hi f _ l' u' (c++k :: c') u0 hg (fun h=>?_)
    obtain ⟨h1,tr',h2,h3,h4,h5,h6⟩:=hu' h
    obtain ⟨g1,tr,g2,g3,g4,g5,g6⟩:=hu h1
    subst h2 g2
    have ho:(if (k.kind == 4) = true then (3:Int) else 4) = 3∨(if (k.kind == 4) = true then (3:Int) else 4) = 4:=by split <;> simp
    have hin:=in_loose (ho.imp id Or.inl) tr'.steps
    refine ⟨g1,.bin (if k.kind == 4 then 3 else 4) tr tr',?_,.bin _ _ _ ho g3 h3,⟨g4,h4⟩,⟨g5,h5⟩,?_⟩
    ·simp [Tr.steps,stepO]
    ·obtain ⟨a1,a2,a3⟩:=h6
     obtain ⟨b1,b2,b3⟩:=g6
     simp only [Bool.false_eq_true,if_false,Nat.add_zero] at b1 b2 b3
     refine ⟨?_,?_,?_⟩
     ·simp only [Tr.deep,hin,Bool.false_eq_true,if_false]
      omega
     ·simp only [ptext,hin,List.length_append,List.length_cons,brkD_len,Bool.false_eq_true,if_false]
      rw [sizeL_app,sizeL_cons]
      omega
     ·simp only [Tr.brks,hin,left_app,Bool.false_eq_true,if_false]
      rw [left_ne (by omega)]
      omega
  ·exact ⟨c,rfl,hu⟩
theorem mainP_q (hi:InnerQ x r0 inner) (l:List Tok) (u:Option Tok) (hg:GoodQ x l):OutQ x bM r0 l u (mainP x sz inner l u):=by
 unfold mainP
 cases h5:isT 5 l with
 | true=>
  cases l with
  | nil=>simp [isT] at h5
  | cons k r=>
   have hk5:k.kind = 5:=by simpa [isT] using h5
   simp only [if_true,List.tail_cons]
   have h:=itemP_q (sz:=sz) hi r u (fun k' hk'=>hg k' (List.mem_cons_of_mem _ hk'))
   have hkp:=(hg k List.mem_cons_self).pos (by rw [hk5]; decide)
   cases hq:itemP x sz inner r u with
   | error e=>rw [hq] at h; exact h
   | ok v=>
    obtain ⟨t',l',u'⟩:=v
    rw [hq] at h
    obtain ⟨c',e,hu'⟩:=h
    have el:k :: r = (k :: c')++l':=by rw [e]; simp
    rw [el] at hg ⊢
    refine loopP_q hi _ _ l' u' (k :: c') u hg (fun h=>?_)
    obtain ⟨h1,tr',h2,h3,h4,h5',h6⟩:=hu' h
    subst h2
    have hin:=in_loose (o:=5) (.inr (.inr rfl)) tr'.steps
    refine ⟨h1,.inv tr',by simp [Tr.steps,stepO],.inv _ h3,h4,h5',?_⟩
    obtain ⟨a1,a2,a3⟩:=h6
    refine ⟨?_,?_,?_⟩
    ·simp only [Tr.deep,hin,Bool.false_eq_true,if_false]
     omega
    ·simp only [ptext,hin,List.length_cons,brkD_len,Bool.false_eq_true,if_false]
     rw [sizeL_cons]
     omega
    ·simp only [Tr.brks,hin,Bool.false_eq_true,if_false]
     rw [left_ne (by omega)]
     omega
 | false=>
  simp only [Bool.false_eq_true,if_false]
  have h:=itemP_q (sz:=sz) hi l u hg
  cases hq:itemP x sz inner l u with
  | error e=>rw [hq] at h; exact h
  | ok v=>
   obtain ⟨t',l',u'⟩:=v
   rw [hq] at h
   obtain ⟨c',e,hu'⟩:=h
   rw [e] at hg ⊢
   refine loopP_q hi _ _ l' u' c' u hg (fun h=>?_)
   obtain ⟨h1,tr',h2,h3,h4,h5',h6⟩:=hu' h
   exact ⟨h1,tr',h2,h3,h4,h5',h6.less (by simp)⟩
end
theorem levelP_q:∀ r0:Nat,InnerQ x r0 (levelP x sz r0)
 | 0,t,l,u,h7,hg=>.inl rfl
 | r0 + 1,t,l,u,h7,hg=>by
  have h:=mainP_q (sz:=sz) (levelP_q r0) l u (fun k' hk'=>hg k' (List.mem_cons_of_mem _ hk'))
  have htp:=(hg t List.mem_cons_self).pos (by rw [h7]; decide)
  unfold levelP
  simp only [List.tail_cons]
  cases hq:mainP x sz (levelP x sz r0) l u with
  | error e=>rw [hq] at h; exact h
  | ok v=>
   obtain ⟨t',l',u'⟩:=v
   rw [hq] at h
   obtain ⟨c,e,hu⟩:=h
   cases l' with
   | nil=>exact .inr rfl
   | cons k r=>
    simp only [closeP]
    split
    ·rename_i h8
     have h8':k.kind = 8:=by simpa using h8
     have hkp:=(hg k (by rw [e]; simp)).pos (by rw [h8']; decide)
     refine ⟨t :: (c++[k]),by rw [e]; simp,fun h=>?_⟩
     obtain ⟨h1,tr,h2,h3,h4,h5,a1,a2,a3⟩:=hu h
     refine ⟨h1,tr,h2,h3,h4,h5,?_⟩
     have k7:¬ k.kind = 7:=by omega
     simp only [bM,Bool.false_eq_true,if_false,Nat.add_zero] at a1 a2 a3
     refine ⟨?_,?_,?_⟩
     ·split <;> omega
     ·rw [sizeL_cons,sizeL_app,sizeL_cons,sizeL_nil]
      split <;> omega
     ·simp only [leftC,h7,if_true,left_app,k7,if_false]
      split <;> omega
    ·exact .inr rfl
theorem lex_pos (x:Int):∀ (f:Nat) (s:List UInt8) (p:Nat),(lexF x f s p).1.length ≤ sizeL (lexF x f s p).1
 | 0,s,p=>by simp [lexF]
 | f + 1,s,p=>by
  simp only [lexF]
  cases h:nextS x s with
  | none=>simp
  | some g=>
   obtain ⟨k,t,n,l⟩:=g
   have h1:=(next_len h).1
   have h2:=next_size h (p:Int)
   have:=lex_pos x f (s.drop l) (p + l)
   rw [sizeL_cons,List.length_cons,h2]
   omega
theorem treeP_q {L:List Tok} (hg:GoodQ x L) (hl:L.length ≤ 255):(treeP x sz L).err ≠ 16∧((treeP x sz L).err = 0→∃ tr,Tr.steps tr = (treeP x sz L).tree∧TrOk tr∧tr.fits∧tr.told x∧tr.deep ≤ 32∧(ptext x tr).length ≤ sizeL L∧tr.brks ≤ leftC L∧tr.steps.length ≤ 255):=by
 have hm:=mainP_q (sz:=sz) (levelP_q (x:=x) (sz:=sz) 32) L none hg
 have hf:=treeP_few x sz L
 unfold treeP at hf ⊢
 cases hq:mainP x sz (levelP x sz 32) L none with
 | error e=>
  rw [hq] at hm
  have hm':e.1 = 13∨e.1 = 14:=hm
  exact ⟨by simp only; omega,fun h=>by simp only at h; omega⟩
 | ok v=>
  obtain ⟨t,l',u⟩:=v
  rw [hq] at hm hf
  cases l' with
  | cons k r=>exact ⟨by simp,fun h=>by cases h⟩
  | nil=>
   cases u with
   | some k=>exact ⟨by simp,fun h=>by cases h⟩
   | none=>
    refine ⟨by simp,fun _=>?_⟩
    obtain ⟨c,ec,hu⟩:=hm
    rw [List.append_nil] at ec
    subst ec
    obtain ⟨_,tr,h2,h3,h4,h5,a1,a2,a3⟩:=hu rfl
    simp only [bM,Bool.false_eq_true,if_false,Nat.add_zero] at a1 a2 a3
    simp only at hf
    exact ⟨tr,h2,h3,h4,h5,a1,a2,a3,by rw [h2]; omega⟩
theorem parse_q (hx:isN x = true) (s:List UInt8):(parseP x s).err ≠ 16∧((parseP x s).err = 0→∃ tr,Tr.steps tr = (parseP x s).tree∧TrOk tr∧tr.fits∧tr.told x∧tr.deep ≤ 32∧(ptext x tr).length ≤ s.length∧tr.brks ≤ leftC (lexS x s).1∧s.length ≤ 255∧tr.steps.length ≤ 255):=by
 unfold parseP
 rw [if_pos hx]
 by_cases hl:s.length ≤ 255
 ·rw [if_pos hl]
  have hq:=lex_q x s.length s 0 (by omega)
  have hsum:=lexF_sum x s.length s 0
  have hpos:=lex_pos x s.length s 0
  have e:lexF x s.length s 0 = lexS x s:=rfl
  have hend:=(lexF_len x s.length s 0).2
  rw [e] at hq hsum hend hpos
  generalize (lexS x s).1 = l at *
  generalize (lexS x s).2 = en at *
  have hsl:sizeL l = en:=by
   unfold sizeL
   omega
  by_cases hen:en < s.length
  ·rw [if_pos hen]
   have hg:GoodQ x (l++[⟨0,en,[],0⟩]):=by
    intro k hk
    rcases List.mem_append.1 hk with hk | hk
    ·exact hq k hk
    ·simp only [List.mem_singleton] at hk
     subst hk
     exact ⟨fun h=>by simp at h,fun h=>by simp at h,fun h=>by simp at h⟩
   obtain ⟨h1,h2⟩:=treeP_q (sz:=s.length) hg (by simp; omega)
   refine ⟨h1,fun h=>?_⟩
   obtain ⟨tr,g1,g2,g3,g4,g5,g6,g7,g8⟩:=h2 h
   have z:sizeL (l++[⟨0,en,[],0⟩]) = sizeL l:=by
    rw [sizeL_app,sizeL_cons,sizeL_nil]
    rfl
   have zl:leftC (l++[⟨0,en,[],0⟩]) = leftC l:=by rw [left_app]; simp [leftC]
   exact ⟨tr,g1,g2,g3,g4,g5,by omega,by omega,hl,g8⟩
  ·rw [if_neg hen]
   obtain ⟨h1,h2⟩:=treeP_q (sz:=s.length) hq (by omega)
   refine ⟨h1,fun h=>?_⟩
   obtain ⟨tr,g1,g2,g3,g4,g5,g6,g7,g8⟩:=h2 h
   exact ⟨tr,g1,g2,g3,g4,g5,by omega,g7,hl,g8⟩
 ·rw [if_neg hl]
  exact ⟨by simp,fun h=>by cases h⟩
theorem parse_short (hx:isN x = true) {s:List UInt8} (h:(parseP x s).err = 0):∃ tr,Tr.steps tr = (parseP x s).tree∧TrOk tr∧tr.fits∧tr.told x∧tr.deep ≤ 32∧(ptext x tr).length ≤ s.length∧tr.brks ≤ leftC (lexS x s).1∧s.length ≤ 255∧tr.steps.length ≤ 255:=(parse_q hx s).2 h
end Go.Pv
