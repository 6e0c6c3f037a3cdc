/- A part of the proof: functions of the program in the evaluator's code, and what they come to. Conditions: none; definitions and theorems that the statement's proof uses. -/
import Derived.Test.YteiaohbhlapklaaGreatDoorSettPcTree5
import Derived.Test.YteiaohbhlapklaaGreatDoorSettPcSym4
import Derived.Test.YteiaohbhlapklaaGreatDoorSettPcLex8
/- The reference's functions on trees: how deep brackets stand; digits. Conditions: the functions' codes; theorems. -/
namespace Go.Pv
variable {E:Env}
theorem last_shut {v:AV} {t a:List StepA} {x:StepA} (hv:TreeV v t) (ht:t = a++[x]):∃ own,v = .vs own (a.length + 1) (t.flatMap StepA.cs):=by
 rcases hv with ⟨_,h0⟩ | ⟨own,rfl⟩
 ·rw [h0] at ht
  simp at ht
 ·exact ⟨own,by rw [ht]; simp⟩
set_option maxHeartbeats 2000000 in
theorem nest_eq (H:Has 184 E):∀ (t:Tr),TrOk t→t.steps.length ≤ 255→∀ v,TreeV v t.steps→EvClosed E (.fn (.func 184) [] []) [v] = some (.int .i64 t.deep):=by
 have step:∀ (t r:Tr) (k:Int),TrOk t→t.steps.length ≤ 255→t.right = r.steps→(∀ v,TreeV v r.steps→EvClosed E (.fn (.func 184) [] []) [v] = some (.int .i64 r.deep)) →
   (∀ a x,t.steps = a++[x]→x.op = k)→takesI k ≠ 0→(t.left = []∧t.deep = r.deep + (if inB k r.steps then 1 else 0)∨∃ l:Tr,t.left = l.steps∧(∀ v,TreeV v l.steps→EvClosed E (.fn (.func 184) [] []) [v] = some (.int .i64 l.deep))∧t.deep = max (r.deep + (if inB k r.steps then 1 else 0)) l.deep) →
   ∀ v,TreeV v t.steps→EvClosed E (.fn (.func 184) [] []) [v] = some (.int .i64 t.deep):=by
  intro t r k ht hl hright ihr hop hk0 hleft v hv
  obtain ⟨v',sv,hv'⟩:=tree_shut hv
  rw [EvClosed_eq H.c184 rfl (vs:=[v']) (by simp [sv]),EvFn_eq]
  obtain ⟨a,x,e,ea⟩:=t.snoc
  have hx:=hop a x e
  have htk:=takes_eq (H.to 183) x.op
  rw [hx] at htk
  obtain ⟨lv,rv,hp,hlv,hrv⟩:=parts_eq (H.to 188) ht hv' hl
  obtain ⟨e1,e2,e3⟩:=last_at e
  rw [hx] at e1
  rw [hright] at hrv
  obtain ⟨ra,rx,re,_⟩:=r.snoc
  have hrl:r.steps.length < 256:=by rw [← hright]; rw [ea,List.length_append] at e3; omega
  have hin:=in_eq (H.to 189) hrv re (by omega) k
  have hd:=ihr rv hrv
  have hrd:=deep_le r
  obtain ⟨own,rfl⟩:=last_shut hv' e
  have ll:(t.steps.flatMap StepA.cs).length = (a.length + 1) * 6:=by rw [fm_len StepA.len,e3]
  have w:IntKind.i64.wrap ((a.length:Int) + 1 - 1) = (a.length:Int):=by rw [Int.add_sub_cancel]; exact w64
  have w':IntKind.i64.wrap (a.length:Int) = (a.length:Int):=w64
  have hq:(a.length:Int) < (a.length:Int) + 1:=by omega
  have h1:a.length * 6 < (a.length + 1) * 6:=by omega
  have h2:1 ≤ (a.length + 1) * 6 - a.length * 6:=by omega
  have h3:0 < (a.length + 1) * 6 - a.length * 6:=by omega
  have w2:IntKind.i64.wrap ((r.deep:Int) + 1) = (r.deep:Int) + 1:=w64
  have hkb:(takesI k == 0) = false:=by simpa using hk0
  have lvc:lv.isCell = true:=by rcases hlv with ⟨rfl,_⟩ | ⟨_,rfl⟩ <;> rfl
  have rvc:rv.isCell = true:=by rcases hrv with ⟨rfl,_⟩ | ⟨_,rfl⟩ <;> rfl
  have rvs:rv.cells? = some [rv]:=by rcases hrv with ⟨rfl,_⟩ | ⟨_,rfl⟩ <;> rfl
  unfold AV.cells? at rvs
  generalize t.steps.flatMap StepA.cs = ca at *
  rcases hleft with ⟨hL,hdp⟩ | ⟨l,hL,ihl,hdp⟩
  ·rw [hL] at hlv
   rw [hdp]
   rcases hlv with ⟨rfl,_⟩ | ⟨o2,rfl⟩
   ·cases hb:inB k r.steps <;> rw [hb] at hin <;> simp [f184,start,EvCall_closed H.c183 rfl,EvCall_closed H.c188 rfl,EvCall_closed H.c184 rfl,hp,hd,hin,htk,hkb,w',hq,ll,h1,h2,h3,e1,w2,push_setk,rvc]
   ·cases hb:inB k r.steps <;> rw [hb] at hin <;> simp [f184,start,EvCall_closed H.c183 rfl,EvCall_closed H.c188 rfl,EvCall_closed H.c184 rfl,hp,hd,hin,htk,hkb,w',hq,ll,h1,h2,h3,e1,w2,push_setk,rvc]
  ·rw [hL] at hlv
   have hdl:=ihl lv hlv
   have hlp:=Tr.steps_pos l
   obtain ⟨la,lx,le,_⟩:=l.snoc
   obtain ⟨o2,rfl⟩:=last_shut hlv le
   have hlen:decide ((0:Int) < (la.length:Int) + 1) = true:=decide_eq_true (by omega)
   rw [hdp]
   generalize l.steps.flatMap StepA.cs = cl at *
   cases hb:inB k r.steps
   ·rw [hb] at hin
    have hmx:(if (r.deep:Int) < (l.deep:Int) then AV.int .i64 (l.deep:Int) else .int .i64 (r.deep:Int)) = .int .i64 ((max (r.deep + 0) l.deep:Nat):Int):=by
     split
     ·congr 1; omega
     ·congr 1; omega
    have hmx2:(if (r.deep:Int) < (l.deep:Int) then (l.deep:Int) else (r.deep:Int)) = ((max (r.deep + 0) l.deep:Nat):Int):=by split <;> omega
    simp [f184,start,EvCall_closed H.c183 rfl,EvCall_closed H.c188 rfl,EvCall_closed H.c184 rfl,hp,hd,hdl,hin,htk,hkb,w',hq,ll,h1,h2,h3,e1,push_setk,rvc]
    simpa using hmx2
   ·rw [hb] at hin
    have hmx2:(if (r.deep:Int) + 1 < (l.deep:Int) then (l.deep:Int) else (r.deep:Int) + 1) = ((max (r.deep + 1) l.deep:Nat):Int):=by split <;> omega
    simp [f184,start,EvCall_closed H.c183 rfl,EvCall_closed H.c188 rfl,EvCall_closed H.c184 rfl,hp,hd,hdl,hin,htk,hkb,w',hq,ll,h1,h2,h3,e1,w2,push_setk,rvc]
    simpa using hmx2
 have leaf:∀ (t:Tr) (x:StepA),t.steps = []++[x]→takesI x.op = 0→t.deep = 0→∀ v,TreeV v t.steps→EvClosed E (.fn (.func 184) [] []) [v] = some (.int .i64 t.deep):=by
  intro t x e hk hdp v hv
  obtain ⟨v',sv,hv'⟩:=tree_shut hv
  rw [EvClosed_eq H.c184 rfl (vs:=[v']) (by simp [sv]),EvFn_eq]
  have htk:=takes_eq (H.to 183) x.op
  rw [hk] at htk
  obtain ⟨own,rfl⟩:=last_shut hv' e
  rw [e,hdp]
  have w0:IntKind.i64.wrap 0 = 0:=w64
  simp [f184,start,EvCall_closed H.c183 rfl,htk,StepA.cs,w0]
 intro t
 induction t with
 | num n=>intro ht hl; exact leaf _ _ rfl rfl rfl
 | sym p a n=>intro ht hl; exact leaf _ _ rfl rfl rfl
 | alone s=>intro ht hl; exact leaf _ _ rfl rfl rfl
 | note t s ih=>
  intro ht hl
  have hlt:t.steps.length ≤ 255:=by simp only [Tr.steps,List.length_append] at hl; omega
  cases ht with
  | note _ _ h1 h2 h3=>exact step (.note t s) t 6 (.note t s h1 h2 h3) hl rfl (ih h1 hlt) (fun a x h=>by obtain ⟨_,rfl⟩:=snoc_inj h; rfl) (by decide) (.inl ⟨rfl,rfl⟩)
 | inv t ih=>
  intro ht hl
  have hlt:t.steps.length ≤ 255:=by simp only [Tr.steps,List.length_append] at hl; omega
  cases ht with
  | inv _ h1=>exact step (.inv t) t 5 (.inv t h1) hl rfl (ih h1 hlt) (fun a x h=>by obtain ⟨_,rfl⟩:=snoc_inj h; rfl) (by decide) (.inl ⟨rfl,rfl⟩)
 | bin o l r ihl ihr=>
  intro ht hl
  have hlt:l.steps.length ≤ 255∧r.steps.length ≤ 255:=by simp only [Tr.steps,List.length_append] at hl; omega
  cases ht with
  | bin _ _ _ ho h1 h2=>exact step (.bin o l r) r o (.bin o l r ho h1 h2) hl rfl (ihr h2 hlt.2) (fun a x h=>by obtain ⟨_,rfl⟩:=snoc_inj h; rfl) (by rcases ho with rfl | rfl <;> decide) (.inr ⟨l,rfl,ihl h1 hlt.1,rfl⟩)
theorem nestT_eq (H:Has 173 E) {t:Tr} (ht:TrOk t) (hl:t.steps.length ≤ 255) {v:AV} (hv:TreeV v t.steps):EvClosed E (.fn (.func 173) [] []) [v] = some (.int .i64 t.deep):=by
 obtain ⟨v',sv,hv'⟩:=tree_shut hv
 rw [EvClosed_eq H.c173 rfl (vs:=[v']) (by simp [sv]),EvFn_eq]
 have h1:=sound_eq (H.to 170) ht hv' hl
 have h2:=nest_eq (H.to 184) t ht hl v' hv'
 simp [f173,start,EvCall_closed H.c170 rfl,EvCall_closed H.c184 rfl,h1,h2]
theorem byteOf_eq (H:Has 185 E) (c:UInt8):EvClosed E (.fn (.func 185) [] []) [b8 c] = some (.str [c]):=by
 rw [EvClosed_eq H.c185 rfl (vs:=[b8 c]) (by simp),EvFn_eq]
 simp [f185,start,bytesOf]
def digitsS:Nat→Nat→List UInt8
 | 0,n=>[UInt8.ofNat (48 + n)]
 | f + 1,n=>if n < 10 then [UInt8.ofNat (48 + n)] else digitsS f (n / 10)++[UInt8.ofNat (48 + n % 10)]
theorem u8_dig {n:Nat} (h:n ≤ 9):IntKind.u8.wrap (48 + (n:Int)) = (UInt8.ofNat (48 + n)).toNat:=by
 have:n = 0∨n = 1∨n = 2∨n = 3∨n = 4∨n = 5∨n = 6∨n = 7∨n = 8∨n = 9:=by omega
 rcases this with rfl | rfl | rfl | rfl | rfl | rfl | rfl | rfl | rfl | rfl <;> rfl
theorem digits_len:∀ f n,(digitsS f n).length ≤ f + 1
 | 0,n=>by simp [digitsS]
 | f + 1,n=>by
  unfold digitsS
  split
  ·simp
  ·have:=digits_len f (n / 10)
   simp only [List.length_append,List.length_cons,List.length_nil]
   omega
def leadD:Nat→Nat→Nat
 | 0,n=>n
 | f + 1,n=>if n < 10 then n else leadD f (n / 10)
def tailD:Nat→Nat→List UInt8→List UInt8
 | 0,_,s=>s
 | f + 1,n,s=>if n < 10 then s else tailD f (n / 10) (UInt8.ofNat (48 + n % 10) :: s)
theorem lead_lt:∀ f n,n < 10 ^ (f + 1)→leadD f n < 10
 | 0,n,h=>by simpa [leadD] using h
 | f + 1,n,h=>by
  unfold leadD
  split
  ·assumption
  ·have hp:(10:Nat) ^ (f + 1 + 1) = 10 ^ (f + 1) * 10:=Nat.pow_succ ..
   exact lead_lt f (n / 10) (by omega)
theorem lead_tail:∀ f n s,UInt8.ofNat (48 + leadD f n) :: tailD f n s = digitsS f n++s
 | 0,n,s=>by simp [leadD,tailD,digitsS]
 | f + 1,n,s=>by
  simp only [leadD,tailD,digitsS]
  split
  ·rfl
  ·rw [lead_tail f (n / 10)]
   simp
theorem bytes1 (c:UInt8):bytesOf [b8 c] = some [c]:=by simp [bytesOf]
theorem digits_loop {hh:AHeap}:∀ (f n:Nat) (s:List UInt8),n < 10 ^ (f + 1)→n < 9223372036854775808→s.length + f ≤ 100→∀ F,mask k186_0 F = s186_0 (.int .i64 n) (.str s) →
  EvCode E (.loop k186_0 l186_0) F hh = some (.exit 0,x186_0 (.int .i64 (leadD f n)) (.str (tailD f n s)),hh):=by
 intro f
 induction f with
 | zero=>
  intro n s hn hn2 hs F hF
  have h10:decide ((10:Int) ≤ (n:Int)) = false:=decide_eq_false (by omega)
  have h10':¬ 10 ≤ n:=by omega
  rw [EvCode_loop,hF]
  simp [l186_0,s186_0,x186_0,h10,leadD,tailD]
 | succ f ih=>
  intro n s hn hn2 hs F hF
  by_cases h:n < 10
  ·have h10:decide ((10:Int) ≤ (n:Int)) = false:=decide_eq_false (by omega)
   have h10':¬ 10 ≤ n:=by omega
   rw [EvCode_loop,hF]
   simp [l186_0,s186_0,x186_0,h10,leadD,tailD,h]
  ·have h10:decide ((10:Int) ≤ (n:Int)) = true:=decide_eq_true (by omega)
   have h10':10 ≤ n:=by omega
   have hp:(10:Nat) ^ (f + 1 + 1) = 10 ^ (f + 1) * 10:=Nat.pow_succ ..
   have ih:=ih (n / 10) (UInt8.ofNat (48 + n % 10) :: s) (by omega) (by omega) (by simp only [List.length_cons]; omega)
   have w1:IntKind.i64.wrap (48 + (n:Int).tmod 10) = 48 + ((n % 10:Nat):Int):=(w64:IntKind.i64.wrap (48 + ((n % 10:Nat):Int)) = _)
   have w2:=u8_dig (n:=n % 10) (by omega)
   have w3:IntKind.i64.wrap ((n:Int) / 10) = ((n / 10:Nat):Int):=by rw [w64]; rfl
   have hl:s.length + 1 ≤ 9223372036854775807:=by omega
   have hl':1 + s.length ≤ 9223372036854775807:=by omega
   have w12:IntKind.u8.wrap (IntKind.i64.wrap (48 + (n:Int).tmod 10)) = ((UInt8.ofNat (48 + n % 10)).toNat:Int):=by rw [w1]; exact w2
   have hb:=bytes1 (UInt8.ofNat (48 + n % 10))
   have e1:leadD (f + 1) n = leadD f (n / 10):=by simp only [leadD]; rw [if_neg h]
   have e2:tailD (f + 1) n s = tailD f (n / 10) (UInt8.ofNat (48 + n % 10) :: s):=by simp only [tailD]; rw [if_neg h]
   rw [EvCode_loop,hF,e1,e2]
   generalize UInt8.ofNat (48 + n % 10) = c at *
   generalize EvCode E (.loop k186_0 l186_0) = lp at ih ⊢
   simp [l186_0,s186_0,h10,w12,hb,hl',w3]
   exact ih _ (by simp [s186_0])
def decSt (n:Nat):List UInt8:=digitsS 18 n
theorem dec_len (n:Nat):(decSt n).length ≤ 19:=digits_len 18 n
theorem digits_eq (H:Has 186 E) {n:Nat} (hn:n < 9223372036854775808):EvClosed E (.fn (.func 186) [] []) [.int .i64 n] = some (.str (decSt n)):=by
 rw [EvClosed_eq H.c186 rfl (vs:=[.int .i64 n]) (by simp),EvFn_eq]
 have hlt:=lead_lt 18 n (by omega)
 have lp:=digits_loop (E:=E) (hh:=heap0) 18 n [] (by omega) hn (by simp)
 have hlt2:=lead_tail 18 n []
 have hln:=digits_len 18 n
 rw [List.append_nil] at hlt2
 have hl3:(tailD 18 n []).length + 1 ≤ 19:=by rw [← hlt2] at hln; simpa using hln
 have w1:IntKind.i64.wrap (48 + (leadD 18 n:Int)) = 48 + (leadD 18 n:Int):=w64
 have w2:=u8_dig (n:=leadD 18 n) (by omega)
 have hb:=bytes1 (UInt8.ofNat (48 + leadD 18 n))
 unfold decSt
 generalize leadD 18 n = m at *
 generalize tailD 18 n [] = tl at *
 rw [← hlt2]
 rw [← w1] at w2
 generalize UInt8.ofNat (48 + m) = c at *
 have hl:tl.length + 1 ≤ 9223372036854775807:=by omega
 have hl':1 + tl.length ≤ 9223372036854775807:=by omega
 simp [f186,start]
 rw [lp _ (by simp [s186_0])]
 simp [x186_0,w2,hb,hl']
end Go.Pv
/- What the reference's texts of symbols come to, all of them, their row, a rank. Conditions: the functions' codes; theorems. -/
namespace Go.Pv
variable {E:Env} {B:Tb} {n:Nat}
set_option maxHeartbeats 2000000 in
theorem refText_eq (H:Has 53 E) (ok:B.Ok) (sh:B.Short) (hn:n < 5) {p:Int} (hp:-1 ≤ p) (hp2:p < B.Q.length) {i:Nat} (hi:i < B.L.length):EvClosed E (.fn (.func 53) [] []) [B.V,.int .i64 ((n:Int) + 1),.int .i64 p,.int .i64 i] = some (.str (symText n B.L B.Q p i)):=by
 rw [EvClosed_eq H.c53 rfl (vs:=[B.V,.int .i64 ((n:Int) + 1),.int .i64 p,.int .i64 i]) (by simp [Tb.V,Tb.A_shut ok,Tb.P_shut ok]),EvFn_eq]
 have hw:IntKind.i64.wrap (n:Int) = n:=w64
 have hn5:(n:Int) < 5:=by omega
 have hi1:=decide_eq_false (by omega:¬ ((i:Int) < 0))
 have hi2:=decide_eq_false (by omega:¬ ((B.L.length:Int) ≤ i))
 have hi3:¬ (B.L.length ≤ i):=by omega
 have hp1:=decide_eq_false (by omega:¬ (p < -1))
 have hp3:=decide_eq_false (by omega:¬ ((B.Q.length:Int) ≤ p))
 have hc:(B.L[i].code n).length ≤ 1000:=sh.a _ (List.getElem_mem hi) n
 have ca:=code_at B.ot hn hi
 have cm:=metric_at B.ot hi
 cases h1:(B.L[i].code n).isEmpty
 ·by_cases hpp:p = -1
  ·subst hpp
   simp [f53,start,Tb.V,Tb.A,Tb.P,hi,hi1,hi3,hp3,hw,hn5,fm_len (acs_len B.ot),lt_at hi,le_off hi,lt_off hi,(by omega:n < 12),(by omega:n + 1 ≤ 12),ca,h1,symText,textA]
  ·obtain ⟨j,rfl⟩:∃ j:Nat,p = j:=⟨p.toNat,by omega⟩
   have hj:j < B.Q.length:=by omega
   have hj3:¬ (B.Q.length ≤ j):=by omega
   have hj4:((j:Int) == -1) = false:=by simp
   have hj5:¬ ((j:Int) = -1):=by omega
   have hq:(B.Q[j].code n).length ≤ 1000:=sh.p _ (List.getElem_mem hj) n
   have hs3:(B.Q[j].code n).length + (B.L[i].code n).length ≤ 9223372036854775807:=by omega
   have cp:=pref_at hn hj
   cases h2:(B.Q[j].code n).isEmpty
   ·cases h3:B.L[i].metric <;> simp [f53,start,Tb.V,Tb.A,Tb.P,hi,hi1,hi3,hp1,hw,hn5,fm_len (acs_len B.ot),lt_at hi,le_off hi,lt_off hi,(by omega:n < 12),(by omega:n + 1 ≤ 12),ca,cm,h1,h2,h3,hj,hj3,hj4,hj5,cp,fm_len PrefR.len,lt_at hj,le_off hj,lt_off hj,(by omega:n < 6),(by omega:n + 1 ≤ 6),hs3,symText,textP]
   ·simp [f53,start,Tb.V,Tb.A,Tb.P,hi,hi1,hi3,hp1,hw,hn5,fm_len (acs_len B.ot),lt_at hi,le_off hi,lt_off hi,(by omega:n < 12),(by omega:n + 1 ≤ 12),ca,h1,h2,hj,hj3,hj4,hj5,cp,fm_len PrefR.len,lt_at hj,le_off hj,lt_off hj,(by omega:n < 6),(by omega:n + 1 ≤ 6),symText,textP]
 ·have h1':B.L[i].code n = []:=by simpa using h1
  have hs:symText n B.L B.Q p i = []:=by
   unfold symText textA textP
   split
   ·simp [hi,h1']
   ·simp only [List.getElem?_eq_getElem hi]
    split
    ·rename_i a q e1 e2
     cases e1
     simp [h1']
    ·rfl
  rw [hs]
  simp [f53,start,Tb.V,Tb.A,Tb.P,hi,hi1,hi3,hp1,hp3,hw,hn5,fm_len (acs_len B.ot),lt_at hi,le_off hi,lt_off hi,(by omega:n < 12),(by omega:n + 1 ≤ 12),ca,h1']
theorem refTold_eq (H:Has 52 E) (ok:B.Ok) (sh:B.Short) (hn:n < 5) {p:Int} (hp:-1 ≤ p) (hp2:p < B.Q.length) {i:Nat} (hi:i < B.L.length):EvClosed E (.fn (.func 52) [] []) [B.V,.int .i64 ((n:Int) + 1),.int .i64 p,.int .i64 i] = some (.bool (toldB n B.L B.Q (symText n B.L B.Q p i) p i)):=by
 rw [EvClosed_eq H.c52 rfl (vs:=[B.V,.int .i64 ((n:Int) + 1),.int .i64 p,.int .i64 i]) (by simp [Tb.V,Tb.A_shut ok,Tb.P_shut ok]),EvFn_eq]
 have ht:=refText_eq (H.to 53) ok sh hn hp hp2 hi
 have hf:=refFind_eq (H.to 74) ok hn (symText n B.L B.Q p i)
 generalize symText n B.L B.Q p i = s at ht hf ⊢
 simp only [Tb.V] at ht hf
 have ca:=@Tb.A_cell B
 have cp:=@Tb.P_cell B
 cases h1:s.isEmpty
 ·cases h2:(findB n B.L B.Q s).2.2
  ·simp [f52,start,Tb.V,EvCall_closed H.c53 rfl,EvCall_closed H.c74 rfl,ht,hf,toldB,h1,h2]
  ·cases h3:((findB n B.L B.Q s).1 == p) <;> simp [f52,start,Tb.V,EvCall_closed H.c53 rfl,EvCall_closed H.c74 rfl,ht,hf,toldB,h1,h2,h3]
 ·simp [f52,start,Tb.V,EvCall_closed H.c53 rfl,EvCall_closed H.c74 rfl,ht,hf,toldB,h1]
end Go.Pv
/- No code of the tables is long. Conditions: none; theorems. -/
namespace Go.Pv
theorem short_of (B:Tb) (h:(B.L.all fun a=>decide (a.c1.length ≤ 1000) && decide (a.c2.length ≤ 1000) && decide (a.c3.length ≤ 1000) && decide (a.c4.length ≤ 1000) && decide (a.c5.length ≤ 1000)) = true)
  (k:(B.Q.all fun a=>decide (a.c1.length ≤ 1000) && decide (a.c2.length ≤ 1000) && decide (a.c3.length ≤ 1000) && decide (a.c4.length ≤ 1000) && decide (a.c5.length ≤ 1000)) = true):B.Short:=by
 refine ⟨fun a ha n=>?_,fun a ha n=>?_⟩
 ·have:=List.all_eq_true.1 h a ha
  simp only [Bool.and_eq_true,decide_eq_true_eq] at this
  unfold AtomR.code
  split <;> omega
 ·have:=List.all_eq_true.1 k a ha
  simp only [Bool.and_eq_true,decide_eq_true_eq] at this
  unfold PrefR.code
  split <;> omega
theorem progB_short:progB.Short:=short_of _ (by decide) (by decide)
theorem refB_short:refB.Short:=short_of _ (by decide) (by decide)
end Go.Pv
/- The reference's text of a tree: symbols, powers. Conditions: the functions' codes; theorems. -/
namespace Go.Pv
variable {E:Env}
def symD (x p a:Int):List UInt8:=symText (x - 1).toNat refB.L refB.Q p a.toNat
theorem symText_len {B:Tb} (sh:B.Short) (n:Nat) (p:Int) (a:Nat):(symText n B.L B.Q p a).length ≤ 2000:=by
 unfold symText
 split
 ·unfold textA
  cases h:B.L[a]? with
  | none=>simp
  | some r=>
   have:=sh.a r (List.mem_of_getElem? h) n
   simp only [Option.map_some,Option.getD_some]
   omega
 ·unfold textP
  cases h:B.L[a]? with
  | none=>simp
  | some r=>
   cases hq:B.Q[p.toNat]? with
   | none=>simp
   | some q=>
    have h1:=sh.a r (List.mem_of_getElem? h) n
    have h2:=sh.p q (List.mem_of_getElem? hq) n
    simp only
    split
    ·simp
    ·split
     ·simp
     ·rw [List.length_append]; omega
theorem symD_len (x p a:Int):(symD x p a).length ≤ 2000:=symText_len refB_short _ _ _
theorem text205_eq (H:Has 205 E) {x:Int} (hn:isN x = true) {p a:Int} (hp:-1 ≤ p) (hp2:p < prefsT.length) (ha0:0 ≤ a) (ha:a < atomsT.length):EvClosed E (.fn (.func 205) [] []) [.int .i64 x,.int .i64 p,.int .i64 a] = some (.str (symD x p a)):=by
 rw [EvClosed_eq H.c205 rfl (vs:=[.int .i64 x,.int .i64 p,.int .i64 a]) (by simp),EvFn_eq]
 have hx:1 ≤ x∧x ≤ 5:=by simpa [isN] using hn
 obtain ⟨n,rfl⟩:∃ n:Nat,x = (n:Int) + 1:=⟨(x - 1).toNat,by omega⟩
 obtain ⟨i,rfl⟩:∃ i:Nat,a = i:=⟨a.toNat,by omega⟩
 have ht:=refTable_eq (H.to 51)
 have h5:=refText_eq (H.to 53) refB_ok refB_short (n:=n) (by omega) hp (p:=p) hp2 (i:=i) (by show i < atomsT.length; omega)
 have e:symD ((n:Int) + 1) p i = symText n refB.L refB.Q p i:=by
  unfold symD
  rw [show ((n:Int) + 1 - 1).toNat = n by omega]
  rfl
 have d1:decide ((n:Int) + 1 < 1) = false:=decide_eq_false (by omega)
 have d2:decide (5 < (n:Int) + 1) = false:=decide_eq_false (by omega)
 rw [e]
 generalize symText n refB.L refB.Q p i = s at *
 generalize refB.V = V at *
 simp [f205,start,EvCall_closed H.c51 rfl,EvCall_closed H.c53 rfl,ht,h5,d1,d2]
def powT (st:Sty) (n:Int):List UInt8:=if n = 1 then [] else (if st.pow != 0 then [st.pow] else [])++(if n < 0 then 45 :: decSt (-n).toNat else decSt n.toNat)
theorem powT_len (st:Sty) (n:Int):(powT st n).length ≤ 21:=by
 unfold powT
 split
 ·simp
 ·have a1:=dec_len (-n).toNat
  have a2:=dec_len n.toNat
  rw [List.length_append]
  split <;> split <;> simp only [List.length_cons,List.length_nil] <;> omega
theorem u8_ne (c:UInt8):((c.toNat:Int) == 0) = (c == 0):=by
 have:=u8i c 0
 simpa using this
set_option maxHeartbeats 2000000 in
theorem sym187_eq (H:Has 187 E) {x:Int} (hn:isN x = true) {s:StepA} (hp:-1 ≤ s.pfx) (hp2:s.pfx < prefsT.length) (ha0:0 ≤ s.atom) (ha:s.atom < atomsT.length) (h1:-99 ≤ s.n) (h2:s.n ≤ 99):EvClosed E (.fn (.func 187) [] []) [.int .i64 x,.agg s.cs] = some (.str (symD x s.pfx s.atom++powT (sty x) s.n)):=by
 rw [EvClosed_eq H.c187 rfl (vs:=[.int .i64 x,.agg s.cs]) (by simp [StepA.cs]),EvFn_eq]
 have ht:=text205_eq (H.to 205) hn hp hp2 ha0 ha
 have ho:=refOf_eq (H.to 19) x
 have hsl:=symD_len x s.pfx s.atom
 unfold powT
 have hpn:=u8_ne (sty x).pow
 have hb:=byteOf_eq (H.to 185) (sty x).pow
 simp only [Sty.cs] at ho
 simp only [StepA.cs]
 have l0:(symD x s.pfx s.atom).length + 1 ≤ 9223372036854775807:=by omega
 have l1:(symD x s.pfx s.atom).length + 1 + 1 ≤ 9223372036854775807:=by omega
 have l2:∀ m,(symD x s.pfx s.atom).length + (decSt m).length ≤ 9223372036854775807:=fun m=>by have:=dec_len m; omega
 have l3:∀ m,(symD x s.pfx s.atom).length + ((decSt m).length + 1) ≤ 9223372036854775807:=fun m=>by have:=dec_len m; omega
 have l4:∀ m,(symD x s.pfx s.atom).length + 1 + (decSt m).length ≤ 9223372036854775807:=fun m=>by have:=dec_len m; omega
 have l5:∀ m,(symD x s.pfx s.atom).length + 1 + 1 + (decSt m).length ≤ 9223372036854775807:=fun m=>by have:=dec_len m; omega
 generalize symD x s.pfx s.atom = d at *
 generalize (sty x).pow = pw at *
 by_cases e1:s.n = 1
 ·simp [f187,start,EvCall_closed H.c205 rfl,ht,e1]
 ·have e1':(s.n == 1) = false:=by simpa using e1
  by_cases e2:s.n < 0
  ·obtain ⟨m,hm⟩:∃ m:Nat,s.n = -(m:Int):=⟨(-s.n).toNat,by omega⟩
   have hd:=digits_eq (H.to 186) (n:=m) (by omega)
   have w:IntKind.i64.wrap (-s.n) = (m:Int):=by rw [hm,Int.neg_neg]; exact w64
   have w':IntKind.i64.wrap (0 - s.n) = (m:Int):=by rw [Int.zero_sub]; exact w
   have d2:decide (s.n < 0) = true:=decide_eq_true e2
   have tn:(-s.n).toNat = m:=by omega
   cases e3:pw == 0
   ·have e4:(pw != 0) = true:=by simp [bne,e3]
    rw [e3] at hpn
    have hpn':¬ pw = 0:=by simpa using e3
    have hpz:¬ pw.toNat = 0:=by simpa using hpn
    simp [f187,start,EvCall_closed H.c205 rfl,EvCall_closed H.c19 rfl,EvCall_closed H.c185 rfl,EvCall_closed H.c186 rfl,ht,ho,hb,hd,e1,e1',e2,w,tn,e4,hpz,l0,l1,l5,push_setk]
   ·have e4:(pw != 0) = false:=by simp [bne,e3]
    rw [e3] at hpn
    have hpn':pw = 0:=by simpa using e3
    subst hpn'
    simp [f187,start,EvCall_closed H.c205 rfl,EvCall_closed H.c19 rfl,EvCall_closed H.c186 rfl,ht,ho,hd,e1,e1',e2,w,tn,l0,l4,push_setk]
  ·obtain ⟨m,hm⟩:∃ m:Nat,s.n = (m:Int):=⟨s.n.toNat,by omega⟩
   have hd:=digits_eq (H.to 186) (n:=m) (by omega)
   have w:IntKind.i64.wrap s.n = (m:Int):=by rw [hm]; exact w64
   have d2:decide (s.n < 0) = false:=decide_eq_false e2
   have tn:s.n.toNat = m:=by omega
   have e1'':¬ m = 1:=by omega
   have e0:¬ (m:Int) = 1:=by omega
   generalize s.n = k at *
   subst hm
   have d3:¬ ((m:Int) < 0):=by omega
   cases e3:pw == 0
   ·have e4:(pw != 0) = true:=by simp [bne,e3]
    rw [e3] at hpn
    have hpn':¬ pw = 0:=by simpa using e3
    have hpz:¬ pw.toNat = 0:=by simpa using hpn
    simp [f187,start,EvCall_closed H.c205 rfl,EvCall_closed H.c19 rfl,EvCall_closed H.c185 rfl,EvCall_closed H.c186 rfl,ht,ho,hb,hd,e0,e1',d3,tn,e4,hpz,l0,l4,push_setk]
   ·have e4:(pw != 0) = false:=by simp [bne,e3]
    rw [e3] at hpn
    have hpn':pw = 0:=by simpa using e3
    subst hpn'
    simp [f187,start,EvCall_closed H.c205 rfl,EvCall_closed H.c19 rfl,EvCall_closed H.c186 rfl,ht,ho,hd,e0,e1',d3,tn,l2,push_setk]
end Go.Pv
