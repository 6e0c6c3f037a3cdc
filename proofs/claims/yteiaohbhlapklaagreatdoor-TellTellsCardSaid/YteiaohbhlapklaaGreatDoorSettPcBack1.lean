/- A part of the proof: functions of the program in the evaluator's code, and what they come to. Conditions: none; definitions and theorems that the statement's proof uses. -/
import Derived.Test.YteiaohbhlapklaaGreatDoorSettPcTree3
/- What is printed, in tokens. Conditions: none; definitions and theorems. -/
namespace Go.Pv
variable {x:Int}
def lexG (x:Int) (s:List UInt8) (p:Nat):List Tok × Nat:=lexF x s.length s p
theorem lexF_fuel (x:Int):∀ (f:Nat) (s:List UInt8) (p:Nat),s.length ≤ f→lexF x f s p = lexG x s p:=by
 have key:∀ (n f:Nat) (s:List UInt8) (p:Nat),s.length ≤ n→s.length ≤ f→lexF x f s p = lexF x s.length s p:=by
  intro n
  induction n with
  | zero=>
   intro f s p hn _
   have:s = []:=List.eq_nil_of_length_eq_zero (by omega)
   subst this
   cases f <;> rfl
  | succ n ih=>
   intro f s p hn hf
   cases s with
   | nil=>cases f <;> rfl
   | cons c r=>
    cases f with
    | zero=>simp at hf
    | succ f=>
     simp only [List.length_cons] at hn hf ⊢
     simp only [lexF]
     cases h:nextS x (c :: r) with
     | none=>rfl
     | some g=>
      obtain ⟨k,t,m,l⟩:=g
      have hl:=(next_len h).1
      have e1:=ih f ((c :: r).drop l) (p + l) (by rw [List.length_drop,List.length_cons]; omega) (by rw [List.length_drop,List.length_cons]; omega)
      have e2:=ih r.length ((c :: r).drop l) (p + l) (by rw [List.length_drop,List.length_cons]; omega) (by rw [List.length_drop,List.length_cons]; omega)
      simp only [e1,e2]
 intro f s p h
 exact key s.length f s p (Nat.le_refl _) h
theorem lexG_nil (p:Nat):lexG x [] p = ([],p):=rfl
theorem lexG_some {s:List UInt8} {p:Nat} {k n:Int} {t:List UInt8} {l:Nat} (h:nextS x s = some (k,t,n,l)):lexG x s p = (⟨k,p,t,n⟩ :: (lexG x (s.drop l) (p + l)).1,(lexG x (s.drop l) (p + l)).2):=by
 cases s with
 | nil=>cases h
 | cons c r=>
  have hl:=(next_len h).1
  have e:=lexF_fuel x r.length ((c :: r).drop l) (p + l) (by rw [List.length_drop,List.length_cons]; omega)
  show lexF x (r.length + 1) (c :: r) p = _
  simp only [lexF,h,e]
def NJ (x:Int) (r:List UInt8):Prop:=∀ c s,r = c :: s→kind x c ≠ 1∧kind x c ≠ 2
theorem NJ.nil:NJ x []:=fun _ _ h=>by cases h
theorem NJ.cons {c:UInt8} {s:List UInt8} (h1:kind x c ≠ 1) (h2:kind x c ≠ 2):NJ x (c :: s):=fun _ _ h=>by cases h; exact ⟨h1,h2⟩
def Lx (x:Int) (s:List UInt8) (P:List Tok→Prop):Prop:=∀ rest p,NJ x rest→∃ ts,P ts∧lexG x (s++rest) p = (ts++(lexG x rest (p + s.length)).1,(lexG x rest (p + s.length)).2)
theorem lx_app {s1 s2:List UInt8} {P Q R:List Tok→Prop} (h1:Lx x s1 P) (h2:Lx x s2 Q) (hn:∀ rest,NJ x rest→NJ x (s2++rest)) (hR:∀ a b,P a→Q b→R (a++b)):Lx x (s1++s2) R:=by
 intro rest p hr
 obtain ⟨b,hb,e2⟩:=h2 rest (p + s1.length) hr
 obtain ⟨a,ha,e1⟩:=h1 (s2++rest) p (hn rest hr)
 refine ⟨a++b,hR a b ha hb,?_⟩
 rw [List.append_assoc,e1,e2,List.length_append,← Nat.add_assoc]
 simp
theorem lx_one {c:UInt8} {k:Int} (hk:kind x c = k) (h:k ≠ 0∧k ≠ 10∧k ≠ 1∧k ≠ 2∧k ≠ 9) (rest:List UInt8) (p:Nat):lexG x (c :: rest) p = (⟨k,p,[c],0⟩ :: (lexG x rest (p + 1)).1,(lexG x rest (p + 1)).2):=by
 have hn:nextS x (c :: rest) = some (k,[c],0,1):=by
  subst hk
  obtain ⟨h0,h10,h1,h2,h9⟩:=h
  simp [nextS,h0,h10,h1,h2,h9]
 rw [lexG_some hn]
 rfl
theorem lx_cons {c:UInt8} {k:Int} {s:List UInt8} {P R:List Tok→Prop} (hk:kind x c = k) (h:k ≠ 0∧k ≠ 10∧k ≠ 1∧k ≠ 2∧k ≠ 9) (hs:Lx x s P) (hR:∀ (t:Tok) b,t.kind = k→t.text = [c]→P b→R (t :: b)):Lx x (c :: s) R:=by
 intro rest p hr
 obtain ⟨b,hb,e⟩:=hs rest (p + 1) hr
 refine ⟨⟨k,p,[c],0⟩ :: b,hR _ _ rfl rfl hb,?_⟩
 rw [List.cons_append,lx_one hk h,e,List.length_cons,show p + 1 + s.length = p + (s.length + 1) by omega]
 rfl
theorem runL_stop (k:Int):∀ (s rest:List UInt8),(∀ c ∈ s,kind x c = k)→(∀ c r,rest = c :: r→kind x c ≠ k)→runL x k (s++rest) = s.length
 | [],rest,_,h=>by
  cases rest with
  | nil=>rfl
  | cons c r=>simp [runL,h c r rfl]
 | c :: s,rest,hs,h=>by
  have hk:=hs c List.mem_cons_self
  have ih:=runL_stop k s rest (fun a ha=>hs a (List.mem_cons_of_mem _ ha)) h
  simp [runL,hk,ih]
theorem kind_dig2 (hx:isN x = true) {c:UInt8} (h:isDig c.toNat = true):kind x c = 2:=by
 unfold kind kindS
 rw [if_pos hx]
 simp only [isDig,Bool.and_eq_true,decide_eq_true_eq] at h
 have h1:isLet c.toNat = false:=by
  simp only [isLet,Bool.or_eq_false_iff,Bool.and_eq_false_iff,decide_eq_false_iff_not,beq_eq_false_iff_ne]
  omega
 have h2:isDig c.toNat = true:=by simp [isDig]; omega
 have h0:(c.toNat == 0) = false:=by simp; omega
 rw [h0,h1,h2]
 rfl
theorem lx_num (hx:isN x = true) {d:List UInt8} (hd:digits d) (hne:d ≠ []) {m:Nat} (hm:dvalF 0 d = m) (hb:m < 9223372036854775808) {rest:List UInt8} (hr:∀ c r,rest = c :: r→kind x c ≠ 2) (p:Nat):
  lexG x (d++rest) p = (⟨2,p,d,m⟩ :: (lexG x rest (p + d.length)).1,(lexG x rest (p + d.length)).2):=by
 cases d with
 | nil=>exact absurd rfl hne
 | cons c s=>
  have hk:=kind_dig2 hx (hd c List.mem_cons_self)
  have hrun:=runL_stop (x:=x) 2 (c :: s) rest (fun a ha=>kind_dig2 hx (hd a ha)) hr
  have ht:(c :: s++rest).take (c :: s).length = c :: s:=List.take_left
  have hn0:numOf (c :: s) = some m:=by
   unfold numOf
   rw [hm,if_pos (by rw [big_eq]; omega)]
  have hn:nextS x (c :: s++rest) = some (2,c :: s,(m:Int),(c :: s).length):=by
   rw [List.cons_append] at hrun ht ⊢
   simp only [nextS,hrun,ht,hn0]
   simp [hk]
  rw [lexG_some hn,List.drop_left]
theorem lx_sym {d:List UInt8} (hd:∀ c ∈ d,kind x c = 1) (hne:d ≠ []) {rest:List UInt8} (hr:∀ c r,rest = c :: r→kind x c ≠ 1) (p:Nat):
  lexG x (d++rest) p = (⟨1,p,raise x d,0⟩ :: (lexG x rest (p + d.length)).1,(lexG x rest (p + d.length)).2):=by
 cases d with
 | nil=>exact absurd rfl hne
 | cons c s=>
  have hk:=hd c List.mem_cons_self
  have hrun:=runL_stop (x:=x) 1 (c :: s) rest hd hr
  have ht:(c :: s++rest).take (c :: s).length = c :: s:=List.take_left
  have hn:nextS x (c :: s++rest) = some (1,raise x (c :: s),0,(c :: s).length):=by
   rw [List.cons_append] at hrun ht ⊢
   simp only [nextS,hrun,ht]
   simp [hk]
  rw [lexG_some hn,List.drop_left]
theorem lx_note (hk:kind x (sty x).opn = 9) {w:List UInt8} (hw:plain x w = true) (rest:List UInt8) (p:Nat):
  lexG x (noteD (sty x) w++rest) p = (⟨9,p,w,0⟩ :: (lexG x rest (p + (noteD (sty x) w).length)).1,(lexG x rest (p + (noteD (sty x) w).length)).2):=by
 have hno:∀ c ∈ w,(c == (sty x).cls) = false:=by
  intro c hc
  unfold plain plainS at hw
  simp only [Bool.and_eq_true,Bool.not_eq_true',List.any_eq_false] at hw
  have:=hw.1 c hc
  simp only [badB,Bool.or_eq_true,not_or] at this
  simpa using this.2
 have hidx:∀ (w rest:List UInt8),(∀ c ∈ w,(c == (sty x).cls) = false)→(w++(sty x).cls :: rest).findIdx (· == (sty x).cls) = w.length:=by
  intro w
  induction w with
  | nil=>intro rest _; simp [List.findIdx_cons]
  | cons c w ih=>
   intro rest h
   have h1:=h c List.mem_cons_self
   have:=ih rest fun a ha=>h a (List.mem_cons_of_mem _ ha)
   simp [List.findIdx_cons,h1,this]
 have hs:noteS x (w++(sty x).cls :: rest) = some w:=by
  simp only [noteS,hidx w rest hno,List.take_left,hw,Bool.and_true,List.length_append,List.length_cons]
  rw [if_pos (by simp)]
 have e:noteD (sty x) w++rest = (sty x).opn :: (w++(sty x).cls :: rest):=by simp [noteD]
 have hn:nextS x ((sty x).opn :: (w++(sty x).cls :: rest)) = some (9,w,0,w.length + 2):=by
  simp [nextS,hk,hs]
 have hl:(noteD (sty x) w).length = w.length + 2:=by simp [noteD]
 rw [e,lexG_some hn,hl]
 have:((sty x).opn :: (w++(sty x).cls :: rest)).drop (w.length + 2) = rest:=by
  rw [List.drop_succ_cons,List.drop_append]
  simp
 rw [this]
theorem dvalF_app (a b:List UInt8):∀ n:Nat,dvalF n (a++b) = dvalF (dvalF n a) b:=by
 induction a with
 | nil=>
  intro n
  have h0:dvalF n [] = n:=rfl
  rw [h0,List.nil_append]
 | cons c a ih=>
  intro n
  have h1:dvalF n (c :: a++b) = dvalF (n * 10 + dig c) (a++b):=rfl
  have h2:dvalF n (c :: a) = dvalF (n * 10 + dig c) a:=rfl
  rw [h1,h2]
  exact ih _
theorem dvalF_one (n:Nat) (c:UInt8):dvalF n [c] = n * 10 + dig c:=rfl
theorem dig_ofNat {n:Nat} (h:n < 10):dig (UInt8.ofNat (48 + n)) = n∧isDig (UInt8.ofNat (48 + n)).toNat = true:=by
 have:n = 0∨n = 1∨n = 2∨n = 3∨n = 4∨n = 5∨n = 6∨n = 7∨n = 8∨n = 9:=by omega
 rcases this with rfl | rfl | rfl | rfl | rfl | rfl | rfl | rfl | rfl | rfl <;> exact ⟨rfl,rfl⟩
theorem digitsS_ok:∀ (f n:Nat),n < 10 ^ (f + 1)→digits (digitsS f n)∧digitsS f n ≠ []∧dvalF 0 (digitsS f n) = n
 | 0,n,h=>by
  obtain ⟨h1,h2⟩:=dig_ofNat (n:=n) (by simpa using h)
  refine ⟨fun c hc=>?_,by simp [digitsS],?_⟩
  rotate_left
  ·simp only [digitsS]; rw [dvalF_one,h1]; omega
  simp only [digitsS,List.mem_singleton] at hc
  rw [hc]
  exact h2
 | f + 1,n,h=>by
  simp only [digitsS]
  split
  ·rename_i h10
   obtain ⟨h1,h2⟩:=dig_ofNat h10
   refine ⟨fun c hc=>?_,by simp,?_⟩
   rotate_left
   ·rw [dvalF_one,h1]; omega
   simp only [List.mem_singleton] at hc
   rw [hc]
   exact h2
  ·have hp:(10:Nat) ^ (f + 1 + 1) = 10 ^ (f + 1) * 10:=Nat.pow_succ ..
   obtain ⟨i1,i2,i3⟩:=digitsS_ok f (n / 10) (by omega)
   obtain ⟨h1,h2⟩:=dig_ofNat (n:=n % 10) (by omega)
   refine ⟨fun c hc=>?_,by simp,?_⟩
   ·rcases List.mem_append.1 hc with hc | hc
    ·exact i1 c hc
    ·simp only [List.mem_singleton] at hc
     rw [hc]
     exact h2
   ·rw [dvalF_app,i3,dvalF_one,h1]
    omega
theorem dec_ok {n:Nat} (h:n < 9223372036854775808):digits (decSt n)∧decSt n ≠ []∧dvalF 0 (decSt n) = n:=digitsS_ok 18 n (by omega)
end Go.Pv
/- The tokens of what is printed. Conditions: none; definitions and theorems. -/
namespace Go.Pv
variable {x:Int}
def okC (n:Nat) (c:UInt8):Bool:=kind ((n:Int) + 1) c == 1 && raise1 (sty ((n:Int) + 1)).fold c == c
def tabOk (n:Nat):Bool:=refB.L.all (fun a=>(a.code n).all (okC n)) && refB.Q.all (fun a=>(a.code n).all (okC n))
theorem tab_ok:(tabOk 0 && tabOk 1 && tabOk 2 && tabOk 3 && tabOk 4) = true:=by decide +kernel
theorem tabOk_of {n:Nat} (hn:n < 5):tabOk n = true:=by
 have h:=tab_ok
 simp only [Bool.and_eq_true] at h
 obtain ⟨⟨⟨⟨h0,h1⟩,h2⟩,h3⟩,h4⟩:=h
 have:n = 0∨n = 1∨n = 2∨n = 3∨n = 4:=by omega
 rcases this with rfl | rfl | rfl | rfl | rfl
 ·exact h0
 ·exact h1
 ·exact h2
 ·exact h3
 ·exact h4
theorem symText_ok {n:Nat} (hn:n < 5) (p:Int) (a:Nat):(symText n refB.L refB.Q p a).all (okC n) = true:=by
 have h:=tabOk_of hn
 simp only [tabOk,Bool.and_eq_true,List.all_eq_true] at h
 obtain ⟨hL,hQ⟩:=h
 unfold symText
 split
 ·unfold textA
  cases h:refB.L[a]? with
  | none=>rfl
  | some r=>
   have:=hL r (List.mem_of_getElem? h)
   simpa using this
 ·unfold textP
  cases h:refB.L[a]? with
  | none=>rfl
  | some r=>
   cases hq:refB.Q[p.toNat]? with
   | none=>rfl
   | some q=>
    have h1:=hL r (List.mem_of_getElem? h)
    have h2:=hQ q (List.mem_of_getElem? hq)
    simp only
    split
    ·rfl
    ·split
     ·rfl
     ·rw [List.all_append,Bool.and_eq_true]
      exact ⟨by simpa using h2,by simpa using h1⟩
theorem symD_ok (hx:isN x = true) (p a:Int):(∀ c ∈ symD x p a,kind x c = 1)∧raise x (symD x p a) = symD x p a:=by
 have hb:1 ≤ x∧x ≤ 5:=by simpa [isN] using hx
 have h:=symText_ok (n:=(x - 1).toNat) (by omega) p a.toNat
 have e:(((x - 1).toNat:Nat):Int) + 1 = x:=by omega
 rw [List.all_eq_true] at h
 have h2:∀ c ∈ symD x p a,kind x c = 1∧raise1 (sty x).fold c = c:=by
  intro c hc
  have:=h c hc
  simp only [okC,e,Bool.and_eq_true,beq_iff_eq] at this
  exact this
 refine ⟨fun c hc=>(h2 c hc).1,?_⟩
 unfold raise
 exact (List.map_congr_left fun c hc=>(h2 c hc).2).trans (List.map_id _)
theorem kind_bytes (hx:isN x = true):kind x (sty x).mul = 4∧kind x (sty x).div = 5∧kind x 40 = 7∧kind x 41 = 8∧kind x 45 = 3∧(((sty x).pow != 0) = true→kind x (sty x).pow = 6)∧(((sty x).opn != 0) = true→kind x (sty x).opn = 9):=by
 rcases isN_cases hx with rfl | rfl | rfl | rfl | rfl <;> decide
theorem told_sym {p a:Int} (h:toldD x p a = true):symD x p a ≠ []∧findB (x - 1).toNat atomsT prefsT (symD x p a) = (p,a,true):=by
 simp only [toldD,toldB,Bool.and_eq_true,Bool.not_eq_true',beq_iff_eq] at h
 obtain ⟨h0,h1,h2,h3⟩:=h
 exact ⟨fun e=>by rw [e] at h0; simp at h0,Prod.ext h2 (Prod.ext h3 h1)⟩
def Brk (b:Bool) (P:List Tok→Prop) (ts:List Tok):Prop:=if b then ∃ k us k',ts = k :: (us++[k'])∧k.kind = 7∧k'.kind = 8∧P us else P ts
def NumTok (n:Int) (ts:List Tok):Prop:=if n < 0 then ∃ k m,ts = [k,m]∧k.kind = 3∧k.text = [45]∧m.kind = 2∧m.n = -n else ∃ m,ts = [m]∧m.kind = 2∧m.n = n
def PowTok (pw:Bool) (n:Int) (ts:List Tok):Prop:=if n = 1 then ts = [] else if pw then ∃ k us,ts = k :: us∧k.kind = 6∧NumTok n us else NumTok n ts
def TokT (x:Int):Tr→List Tok→Prop
 | .num n=>fun ts=>∃ k,ts = [k]∧k.kind = 2∧k.n = n
 | .sym p a n=>fun ts=>∃ k us,ts = k :: us∧k.kind = 1∧k.text = symD x p a∧PowTok ((sty x).pow != 0) n us
 | .alone s=>fun ts=>∃ k,ts = [k]∧k.kind = 9∧k.text = s
 | .note t s=>fun ts=>∃ us k,ts = us++[k]∧Brk (inB 6 t.steps) (TokT x t) us∧k.kind = 9∧k.text = s
 | .inv t=>fun ts=>∃ k us,ts = k :: us∧k.kind = 5∧Brk (inB 5 t.steps) (TokT x t) us
 | .bin o l r=>fun ts=>∃ us k vs,ts = us++k :: vs∧TokT x l us∧k.kind = (if o = 3 then 4 else 5)∧Brk (inB o r.steps) (TokT x r) vs
def Tr.told (x:Int):Tr→Prop
 | .num _=>True
 | .sym p a _=>toldD x p a = true
 | .alone s=>plain x s = true
 | .note t s=>t.told x∧plain x s = true
 | .inv t=>t.told x
 | .bin _ l r=>l.told x∧r.told x
theorem miss_app:∀ (a b:List StepA) (i:Nat),missD x (a++b) i = none→missD x a i = none∧missD x b (i + a.length) = none
 | [],b,i,h=>⟨rfl,h⟩
 | s :: a,b,i,h=>by
  simp only [List.cons_append,missD] at h ⊢
  split at h
  ·cases h
  ·have:=miss_app a b (i + 1) h
   refine ⟨this.1,?_⟩
   rw [List.length_cons,show i + (a.length + 1) = i + 1 + a.length by omega]
   exact this.2
theorem miss_one {s:StepA} {i:Nat} (h:missD x [s] i = none):badD x s = none:=by
 simp only [missD] at h
 split at h
 ·cases h
 ·assumption
theorem told_of:∀ (t:Tr) (i:Nat),missD x t.steps i = none→t.told x
 | .num _,_,_=>trivial
 | .sym p a n,i,h=>by
  have:=miss_one h
  simpa [badD,Tr.told] using this
 | .alone s,i,h=>by
  have:=miss_one h
  simpa [badD,Tr.told] using this
 | .note t s,i,h=>by
  obtain ⟨h1,h2⟩:=miss_app _ _ _ h
  have:=miss_one h2
  exact ⟨told_of t i h1,by simpa [badD] using this⟩
 | .inv t,i,h=>told_of t i (miss_app _ _ _ h).1
 | .bin o l r,i,h=>by
  obtain ⟨h1,_⟩:=miss_app _ _ _ h
  obtain ⟨h2,h3⟩:=miss_app _ _ _ h1
  exact ⟨told_of l _ h2,told_of r _ h3⟩
theorem plain_opn {s:List UInt8} (h:plain x s = true):((sty x).opn != 0) = true:=by
 simp only [plain,plainS,Bool.and_eq_true] at h
 exact h.2
theorem lx_num_tok (hx:isN x = true) {n:Int} (h0:0 ≤ n) (hn:n ≤ 9223372036854775807):Lx x (decSt n.toNat) (fun ts=>∃ m,ts = [m]∧m.kind = 2∧m.n = n):=by
 intro rest p hr
 obtain ⟨d1,d2,d3⟩:=dec_ok (n:=n.toNat) (by omega)
 refine ⟨[⟨2,p,decSt n.toNat,n.toNat⟩],⟨_,rfl,rfl,by simp only; omega⟩,?_⟩
 rw [lx_num hx d1 d2 d3 (by omega) (fun c r h=>(hr c r h).2) p]
 rfl
theorem lx_numtok (hx:isN x = true) {n:Int} (h1:-99 ≤ n) (h2:n ≤ 99):Lx x (if n < 0 then 45 :: decSt (-n).toNat else decSt n.toNat) (NumTok n):=by
 unfold NumTok
 split
 ·obtain ⟨_,_,_,_,k3,_⟩:=kind_bytes hx
  refine lx_cons k3 (by decide) (lx_num_tok hx (n:=-n) (by omega) (by omega)) ?_
  rintro t b hk ht ⟨m,rfl,hm1,hm2⟩
  exact ⟨t,m,rfl,hk,ht,hm1,hm2⟩
 ·exact lx_num_tok hx (by omega) (by omega)
theorem lx_nil {P:List Tok→Prop} (h:P []):Lx x [] P:=fun _ _ _=>⟨[],h,rfl⟩
theorem lx_pow (hx:isN x = true) {n:Int} (h1:-99 ≤ n) (h2:n ≤ 99):Lx x (powT (sty x) n) (PowTok ((sty x).pow != 0) n):=by
 unfold powT PowTok
 split
 ·exact lx_nil rfl
 ·cases hp:(sty x).pow != 0
  ·simp only [Bool.false_eq_true,if_false,List.nil_append]
   exact lx_numtok hx h1 h2
  ·simp only [if_true,List.cons_append,List.nil_append]
   obtain ⟨_,_,_,_,_,k6,_⟩:=kind_bytes hx
   refine lx_cons (k6 hp) (by decide) (lx_numtok hx h1 h2) ?_
   intro t b hk _ hb
   exact ⟨t,b,rfl,hk,hb⟩
theorem dec_head (hx:isN x = true) {m:Nat} {c:UInt8} {r rest:List UInt8} (hm:m < 9223372036854775808) (h:decSt m++rest = c :: r):kind x c ≠ 1:=by
 obtain ⟨d1,d2,_⟩:=dec_ok hm
 cases hd:decSt m with
 | nil=>exact absurd hd d2
 | cons a s=>
  rw [hd] at h d1
  simp only [List.cons_append,List.cons.injEq] at h
  rw [← h.1,kind_dig2 hx (d1 a List.mem_cons_self)]
  decide
theorem pow_head (hx:isN x = true) {n:Int} (h1:-99 ≤ n) (h2:n ≤ 99) {rest:List UInt8} (hr:NJ x rest):∀ c r,powT (sty x) n++rest = c :: r→kind x c ≠ 1:=by
 obtain ⟨_,_,_,_,k3,k6,_⟩:=kind_bytes hx
 intro c r h
 unfold powT at h
 split at h
 ·exact (hr c r h).1
 ·split at h
  ·rename_i hp
   cases h
   rw [k6 hp]
   decide
  ·rw [List.nil_append] at h
   split at h
   ·cases h
    rw [k3]
    decide
   ·exact dec_head hx (by omega) h
theorem lx_brk (hx:isN x = true) {s:List UInt8} {P:List Tok→Prop} (h:Lx x s P) (b:Bool):Lx x (brkD b s) (Brk b P):=by
 obtain ⟨_,_,k7,k8,_⟩:=kind_bytes hx
 cases b with
 | false=>exact h
 | true=>
  simp only [brkD,if_true]
  have h8:Lx x [41] (fun ts=>∃ k',ts = [k']∧k'.kind = 8):=lx_cons k8 (by decide) (lx_nil (P:=fun ts=>ts = []) rfl) (by rintro t b hk _ rfl; exact ⟨t,rfl,hk⟩)
  have h2:Lx x (s++[41]) (fun ts=>∃ us k',ts = us++[k']∧k'.kind = 8∧P us):=lx_app h h8 (fun rest _=>NJ.cons (by rw [k8]; decide) (by rw [k8]; decide)) (by rintro a b ha ⟨k',rfl,hk⟩; exact ⟨a,k',rfl,hk,ha⟩)
  refine lx_cons k7 (by decide) h2 ?_
  rintro t b hk _ ⟨us,k',rfl,hk',hP⟩
  exact ⟨t,us,k',rfl,hk,hk',hP⟩
theorem lx_tree (hx:isN x = true) {t:Tr} (ht:TrOk t):t.fits→t.told x→Lx x (ptext x t) (TokT x t):=by
 obtain ⟨k4,k5,k7,k8,k3,k6,k9⟩:=kind_bytes hx
 have note:∀ s,plain x s = true→Lx x (noteD (sty x) s) (fun ts=>∃ k,ts = [k]∧k.kind = 9∧k.text = s):=by
  intro s hs rest p _
  exact ⟨[⟨9,p,s,0⟩],⟨_,rfl,rfl,rfl⟩,lx_note (k9 (plain_opn hs)) hs rest p⟩
 induction ht with
 | num n h1=>intro hf _; exact lx_num_tok hx (by omega) hf
 | sym p a n a0 a1 p0 p1 n0 n1 hm=>
  intro _ hd rest q hr
  obtain ⟨c1,c2⟩:=symD_ok hx p a
  obtain ⟨t1,_⟩:=told_sym hd
  obtain ⟨us,hu,e⟩:=lx_pow hx n0 n1 rest (q + (symD x p a).length) hr
  refine ⟨⟨1,q,symD x p a,0⟩ :: us,⟨_,us,rfl,rfl,rfl,hu⟩,?_⟩
  simp only [ptext]
  rw [List.append_assoc,lx_sym c1 t1 (pow_head hx n0 n1 hr) q,c2,e,List.length_append,Nat.add_assoc]
  rfl
 | alone s h1 h2=>intro _ hd; exact note s hd
 | note t s _ h1 h2 ih=>
  intro hf hd
  refine lx_app (lx_brk hx (ih hf hd.1) _) (note s hd.2) (fun rest _=>?_) ?_
  ·have:=k9 (plain_opn hd.2)
   exact NJ.cons (by rw [this]; decide) (by rw [this]; decide)
  ·rintro a b ha ⟨k,rfl,hk,ht⟩
   exact ⟨a,k,rfl,ha,hk,ht⟩
 | inv t _ ih=>
  intro hf hd
  refine lx_cons k5 (by decide) (lx_brk hx (ih hf hd) _) ?_
  intro t b hk _ hb
  exact ⟨t,b,rfl,hk,hb⟩
 | bin o l r ho _ _ ih1 ih2=>
  intro hf hd
  have hkc:kind x (if o = 3 then (sty x).mul else (sty x).div) = (if o = 3 then 4 else 5):=by split <;> assumption
  have hkn:(if o = 3 then (4:Int) else 5) ≠ 0∧(if o = 3 then (4:Int) else 5) ≠ 10∧(if o = 3 then (4:Int) else 5) ≠ 1∧(if o = 3 then (4:Int) else 5) ≠ 2∧(if o = 3 then (4:Int) else 5) ≠ 9:=by split <;> decide
  have h2:Lx x ((if o = 3 then (sty x).mul else (sty x).div) :: brkD (inB o r.steps) (ptext x r)) (fun ts=>∃ k vs,ts = k :: vs∧k.kind = (if o = 3 then 4 else 5)∧Brk (inB o r.steps) (TokT x r) vs):=
   lx_cons hkc hkn (lx_brk hx (ih2 hf.2 hd.2) _) (fun t b hk _ hb=>⟨t,b,rfl,hk,hb⟩)
  refine lx_app (ih1 hf.1 hd.1) h2 (fun rest _=>NJ.cons (by rw [hkc]; exact hkn.2.2.1) (by rw [hkc]; exact hkn.2.2.2.1)) ?_
  rintro a b ha ⟨k,vs,rfl,hk,hv⟩
  exact ⟨a,k,vs,rfl,ha,hk,hv⟩
end Go.Pv
