/- A part of the proof: functions of the program in the evaluator's code, and what they come to. Conditions: none; definitions and theorems that the statement's proof uses. -/
import Derived.Test.YteiaohbhlapklaaGreatDoorSetPcLex8
import Derived.Test.YteiaohbhlapklaaGreatDoorSetPcBack4
/- How deep brackets stand in a text's tokens. Conditions: the functions' codes; theorems. -/
namespace Go.Pv
variable {E:Env} {x sz:Int}
end Go.Pv
/- How deep brackets stand in a printed text's tokens. Conditions: none; theorems. -/
namespace Go.Pv
variable {E:Env} {x sz:Int}
end Go.Pv
/- How many brackets a text has. Conditions: the functions' codes; theorems. -/
namespace Go.Pv
variable {E:Env} {x:Int}
def leftC:List Tok→Nat
 | []=>0
 | k :: r=>(if k.kind = 7 then 1 else 0) + leftC r
theorem left_app:∀ (a b:List Tok),leftC (a++b) = leftC a + leftC b
 | [],b=>by simp [leftC]
 | k :: a,b=>by simp only [List.cons_append,leftC,left_app a b]; omega
set_option maxHeartbeats 2000000 in
theorem lefts_loop {own:Own} {l:List Tok} (hl:l.length < 900000) {h:AHeap}:∀ (n i:Nat),i + n = l.length→∀ (d:Nat),d ≤ i→∀ F,mask k239_0 F = s239_0 (.vs own l.length (l.flatMap Tok.cs)) (.int .i64 d) (.int .i64 i) →
  EvCode E (.loop k239_0 l239_0) F h = some (.exit 0,x239_0 (.int .i64 ((d + leftC (l.drop i):Nat):Int)),h)
 | 0,i,hi,d,h1,F,hF=>by
  have:i = l.length:=by omega
  subst this
  rw [EvCode_loop,hF,List.drop_length]
  simp [l239_0,s239_0,x239_0,leftC]
 | n + 1,i,hi,d,h1,F,hF=>by
  have hlt:i < l.length:=by omega
  have cn:((i + 1:Nat):Int) = (i:Int) + 1:=by simp
  have cd:((d + 1:Nat):Int) = (d:Int) + 1:=by simp
  have e1:((l.flatMap Tok.cs).drop (i * 4)).take 1 = [.int .i64 l[i].kind]:=tok_at hlt
  have ll:(l.flatMap Tok.cs).length = l.length * 4:=fm_len Tok.len l
  have h60:i * 4 < l.length * 4:=by omega
  have h61:1 ≤ l.length * 4 - i * 4:=by omega
  have h62:0 < l.length * 4 - i * 4:=by omega
  have w1:IntKind.i64.wrap ((i:Int) + 1) = (i:Int) + 1:=w64
  have w2:IntKind.i64.wrap ((d:Int) + 1) = (d:Int) + 1:=w64
  by_cases h7:l[i].kind = 7
  ·have ih:=lefts_loop (own:=own) hl (h:=h) n (i + 1) (by omega) (d + 1) (by omega)
   rw [cn,cd] at ih
   rw [EvCode_loop,hF,List.drop_eq_getElem_cons hlt]
   have e:d + leftC (l[i] :: l.drop (i + 1)) = d + 1 + leftC (l.drop (i + 1)):=by simp only [leftC,if_pos h7]; omega
   rw [e]
   rw [h7] at e1
   generalize leftC (l.drop (i + 1)) = lc at *
   generalize l.flatMap Tok.cs = ca at *
   generalize EvCode E (.loop k239_0 l239_0) = lp at ih ⊢
   simp [l239_0,s239_0,hlt,ll,h60,h61,h62,e1,w1,w2]
   refine (ih _ ?_).trans ?_
   ·simp [s239_0]
   ·simp
  ·have ih:=lefts_loop (own:=own) hl (h:=h) n (i + 1) (by omega) d (by omega)
   rw [cn] at ih
   rw [EvCode_loop,hF,List.drop_eq_getElem_cons hlt]
   have e:d + leftC (l[i] :: l.drop (i + 1)) = d + leftC (l.drop (i + 1)):=by simp only [leftC,if_neg h7]; omega
   rw [e]
   have h7':(l[i].kind == 7) = false:=by simpa using h7
   generalize leftC (l.drop (i + 1)) = lc at *
   generalize l[i].kind = kd at *
   generalize l.flatMap Tok.cs = ca at *
   generalize EvCode E (.loop k239_0 l239_0) = lp at ih ⊢
   simp [l239_0,s239_0,hlt,ll,h60,h61,h62,e1,w1,h7']
   refine (ih _ ?_).trans ?_
   ·simp [s239_0]
   ·simp
theorem lefts239_eq (H:Has 239 E) (x:Int) (s:List UInt8) (hs:s.length < 900000):EvClosed E (.fn (.func 239) [] []) [.int .i64 x,.str s] = some (.int .i64 (leftC (lexS x s).1)):=by
 rw [EvClosed_eq H.c239 rfl (vs:=[.int .i64 x,.str s]) (by simp),EvFn_eq]
 obtain ⟨g,v,e1,G,ro,rot,hold⟩:=each164_open (H.to 164) x s hs heap0 rfl (Nat.le_refl _)
 have hlen:=lexF_len x s.length s 0
 have e:lexF x s.length s 0 = lexS x s:=rfl
 rw [e] at hlen
 have hll:=hlen.1
 generalize (lexS x s).1 = l at *
 generalize (lexS x s).2 = e2 at *
 rcases G with ⟨rfl,h0,h00⟩ | ⟨k,rfl,hcl,hk1,hk2,hpos⟩
 ·have hl0:l = []:=List.eq_nil_of_length_eq_zero h00
  subst hl0
  simp [f239,start,e1]
  rw [EvCode_loop]
  simp [l239_0,leftC]
 ·have lp:=lefts_loop (E:=E) (own:=.tok k 4) (l:=l) (by omega) (h:=g) l.length 0 (by omega) 0 (by simp)
  rw [List.drop_zero,Nat.zero_add] at lp
  generalize l.flatMap Tok.cs = ca at *
  simp [f239,start,e1]
  rw [lp _ (by simp [s239_0])]
  simp [x239_0]
def Tr.brks:Tr→Nat
 | .note t _=>t.brks + (if inB 6 t.steps then 1 else 0)
 | .inv t=>t.brks + (if inB 5 t.steps then 1 else 0)
 | .bin o l r=>l.brks + (r.brks + (if inB o r.steps then 1 else 0))
 | _=>0
theorem left_brk {P:List Tok→Prop} {n:Nat} (h:∀ ts,P ts→leftC ts = n) (b:Bool) {ts:List Tok} (hb:Brk b P ts):leftC ts = n + if b then 1 else 0:=by
 cases b with
 | false=>exact h ts hb
 | true=>
  simp only [Brk,if_true] at hb
  obtain ⟨k,us,k',rfl,hk,hk',hu⟩:=hb
  have h87:¬ ((8:Int) = 7):=by decide
  simp only [leftC,left_app,hk,hk',h us hu,if_true,if_neg h87]
  omega
theorem left_num {n:Int} {ts:List Tok} (h:NumTok n ts):leftC ts = 0:=by
 unfold NumTok at h
 split at h
 ·obtain ⟨k,m,rfl,hk,_,hm,_⟩:=h
  simp [leftC,hk,hm]
 ·obtain ⟨m,rfl,hm,_⟩:=h
  simp [leftC,hm]
theorem left_tree:∀ (t:Tr) (ts:List Tok),TokT x t ts→leftC ts = t.brks
 | .num n,_,⟨k,e,hk,_⟩=>by rw [e]; simp [leftC,hk,Tr.brks]
 | .alone s,_,⟨k,e,hk,_⟩=>by rw [e]; simp [leftC,hk,Tr.brks]
 | .sym p a n,_,⟨k,us,e,hk,_,hp⟩=>by
  rw [e]
  unfold PowTok at hp
  split at hp
  ·rw [hp]
   simp [leftC,hk,Tr.brks]
  ·split at hp
   ·obtain ⟨k6,vs,rfl,hk6,hv⟩:=hp
    simp [leftC,hk,hk6,left_num hv,Tr.brks]
   ·simp [leftC,hk,left_num hp,Tr.brks]
 | .note t s,_,⟨us,k,e,hb,hk,_⟩=>by
  rw [e,left_app,left_brk (left_tree t) _ hb]
  simp [leftC,hk,Tr.brks]
 | .inv t,_,⟨k,us,e,hk,hb⟩=>by
  rw [e]
  simp [leftC,hk,Tr.brks,left_brk (left_tree t) _ hb]
 | .bin o l r,_,⟨us,k,vs,e,hu,hk,hb⟩=>by
  have hk7:¬ k.kind = 7:=by rw [hk]; split <;> decide
  rw [e,left_app,left_tree l us hu]
  simp [leftC,hk7,Tr.brks,left_brk (left_tree r) _ hb]
theorem lex_print (hx:isN x = true) {t:Tr} (ht:TrOk t) (hf:t.fits) (hd:t.told x):∃ ts,TokT x t ts∧lexS x (ptext x t) = (ts,(ptext x t).length):=by
 obtain ⟨ts,hts,e⟩:=lx_tree hx ht hf hd [] 0 NJ.nil
 rw [List.append_nil,lexG_nil,List.append_nil,Nat.zero_add] at e
 exact ⟨ts,hts,e⟩
end Go.Pv
