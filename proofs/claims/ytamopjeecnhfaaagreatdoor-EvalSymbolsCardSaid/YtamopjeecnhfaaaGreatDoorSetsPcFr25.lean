/- A part of the proof: functions of the program in the evaluator's code, and what they come to. Conditions: none; definitions and theorems that the statement's proof uses. -/
import Derived.Test.YtamopjeecnhfaaaGreatDoorSetsPcFr22
import Derived.Test.YtamopjeecnhfaaaGreatDoorSetsPcLib
/- The reference's dims: Add, Times. Conditions: the functions' codes; theorems. -/
namespace Go.Pv
variable {E:Env}
theorem upTo_0 {v:List Int} (hv:v.length = 7):UpTo v d0 0:=by
 refine ⟨by rw [hv]; rfl,fun j hj=>by omega,fun j _ hj=>?_⟩
 rw [hv] at hj
 have:j = 0∨j = 1∨j = 2∨j = 3∨j = 4∨j = 5∨j = 6:=by omega
 rcases this with h | h | h | h | h | h | h <;> subst h <;> rfl
theorem dC_d0:dC d0 = [.int .i64 0,.int .i64 0,.int .i64 0,.int .i64 0,.int .i64 0,.int .i64 0,.int .i64 0]:=rfl
set_option maxRecDepth 20000 in
theorem add299 (H:Has 299 E) {a b:List Int} (ha:a.length = 7) (hb:b.length = 7) (oa:dOk a = true) (ob:dOk b = true) {n:Int} (hn:n = 1∨n = -1) {v:List Int} (hv:v.length = 7) (hva:∀ i (h:i < 7),v[i] = a[i] + n * b[i]):
  EvClosed E (.fn (.func 299) [] []) [.agg (dC a),.agg (dC b),.int .i64 n] = some (gtD v):=by
 rw [EvClosed_eq H.c299 rfl (vs:=[.agg (dC a),.agg (dC b),.int .i64 n]) (by simp [shutL_dC]),EvFn_eq]
 have l1:(dC a).length = 7:=by rw [dC_len,ha]
 have l2:(dC b).length = 7:=by rw [dC_len,hb]
 have t1:(dC a).take 7 = dC a:=List.take_of_length_le (by omega)
 have t2:(dC b).take 7 = dC b:=List.take_of_length_le (by omega)
 have q1:=dref_right (H.to 321) ha
 have q2:=dref_right (H.to 321) hb
 rw [oa] at q1
 rw [ob] at q2
 have q3:=dref_right (H.to 321) hv
 have hl:=fun F hF=>dref_add_loop (E:=E) ha hb oa ob hn hv hva 7 0 d0 F (by omega) (upTo_0 hv) hF
 rw [dC_d0] at hl
 simp only [Int.natCast_zero] at hl
 obtain ⟨a0,a1,a2,a3,a4,a5,a6,rfl⟩:=seven hv
 clear hva
 generalize dC a = A at *
 generalize dC b = B at *
 unfold gtD
 cases hk:dOk [a0,a1,a2,a3,a4,a5,a6] with
 | true=>
  rw [hk] at q3
  simp only [dC,List.map_cons,List.map_nil] at q3 hl ⊢
  simp [f299,start,l1,l2,t1,t2,EvCall_closed H.c321 rfl,q1,q2,push_setk]
  rw [hl _ (by simp [s299_0])]
  simp [x299_0,EvCall_closed H.c321 rfl,q3,push_setk,push_setl]
 | false=>
  rw [hk] at q3
  simp only [dC,List.map_cons,List.map_nil] at q3 hl ⊢
  simp [f299,start,l1,l2,t1,t2,EvCall_closed H.c321 rfl,q1,q2,push_setk]
  rw [hl _ (by simp [s299_0])]
  simp [x299_0,EvCall_closed H.c321 rfl,q3,push_setk,push_setl,d0]
theorem dref_times_loop {a:List Int} (ha:a.length = 7) (oa:dOk a = true) {n:Int} (n1:-99 ≤ n) (n2:n ≤ 99):∀ (r i:Nat) (w:List Int) (F:Fr),i + r = 7→UpTo (mulD a n) w i →
  mask k333_0 F = s333_0 (.int .i64 n) (.ref 0 0) (.ref 1 0) (.ref 2 0) (.int .i64 i) →
  EvCode E (.loop k333_0 l333_0) F (h3 (.cells (dC a)) (.cells z8C) (.cells (dC w))) = some (.exit 0,x333_0 (.ref 1 0) (.ref 2 0),h3 (.cells (dC a)) (.cells z8C) (.cells (dC (mulD a n)))):=by
 have hv:(mulD a n).length = 7:=by unfold mulD; rw [List.length_map,ha]
 intro r
 induction r with
 | zero=>
  intro i w F hi hu hF
  have hi':i = 7:=by omega
  subst hi'
  rw [← hv] at hu
  have:=hu.all
  subst this
  rw [EvCode_loop,hF]
  simp [l333_0,s333_0,x333_0]
 | succ r ih=>
  intro i w F hi hu hF
  have hlt:i < 7:=by omega
  have hw:IntKind.i64.wrap ((i:Int) + 1) = ((i + 1:Nat):Int):=w64
  have h7:(i:Int) < 7:=by omega
  have e1:=dC_at (d:=a) (i:=i) (by omega)
  have r1:=dOk_get oa (i:=i) (by omega)
  have l1:(dC a).length = 7:=by rw [dC_len,ha]
  have l3:(dC w).length = 7:=by rw [dC_len,hu.len,hv]
  have hvi:(mulD a n)[i] = a[i] * n:=by simp [mulD]
  have ih1:=fun F hF=>ih (i + 1) _ F (by omega) (hu.next (by omega)) hF
  have ih2:=fun (hz:(mulD a n)[i]'(by omega) = 0) F hF=>ih (i + 1) _ F (by omega) (hu.same (by omega) hz) hF
  have hds:=dC_set w i (mulD a n)[i]
  have h71:i + 1 ≤ 7:=by omega
  have c1:¬ n < -99:=by omega
  have c2:¬ 99 < n:=by omega
  rw [EvCode_loop,hF]
  rw [← hds] at ih1
  rw [hvi] at ih1 ih2
  generalize EvCode E (.loop k333_0 l333_0) = lp at ih1 ih2 ⊢
  generalize a[i] = x at *
  have hm:(x * n).natAbs ≤ 99 * 99:=by rw [Int.natAbs_mul]; exact Nat.mul_le_mul (by omega) (by omega)
  have w1:IntKind.i64.wrap (x * n) = x * n:=w64
  generalize dC (mulD a n) = V at *
  clear hds hvi hu oa
  generalize dC a = A at *
  generalize dC w = W at *
  by_cases hz:x = 0
  ·subst hz
   simp [l333_0,s333_0,h7,l1,e1,hw,h71]
   exact ih2 (by simp) _ (by simp [s333_0])
  ·have hz':(x != 0) = true:=by simpa using hz
   simp [l333_0,s333_0,h7,l1,l3,e1,hw,h71,w1,hz',c1,c2,push_setk]
   exact ih1 _ (by simp [s333_0])
set_option maxRecDepth 20000 in
theorem times333 (H:Has 333 E) {a:List Int} (ha:a.length = 7) (oa:dOk a = true) {n:Int} (n1:-99 ≤ n) (n2:n ≤ 99):
  EvClosed E (.fn (.func 333) [] []) [.agg (dC a),.int .i64 n] = some (gtD (mulD a n)):=by
 rw [EvClosed_eq H.c333 rfl (vs:=[.agg (dC a),.int .i64 n]) (by simp [shutL_dC]),EvFn_eq]
 have l1:(dC a).length = 7:=by rw [dC_len,ha]
 have t1:(dC a).take 7 = dC a:=List.take_of_length_le (by omega)
 have hv:(mulD a n).length = 7:=by unfold mulD; rw [List.length_map,ha]
 have q1:=dref_right (H.to 321) ha
 rw [oa] at q1
 have q3:=dref_right (H.to 321) hv
 have hl:=fun F hF=>dref_times_loop (E:=E) ha oa n1 n2 7 0 d0 F (by omega) (upTo_0 hv) hF
 rw [dC_d0] at hl
 simp only [Int.natCast_zero] at hl
 obtain ⟨a0,a1,a2,a3,a4,a5,a6,hs⟩:=seven hv
 rw [hs] at hl q3 ⊢
 generalize dC a = A at *
 unfold gtD
 cases hk:dOk [a0,a1,a2,a3,a4,a5,a6] with
 | true=>
  rw [hk] at q3
  simp only [dC,List.map_cons,List.map_nil] at q3 hl ⊢
  simp [f333,start,l1,t1,EvCall_closed H.c321 rfl,q1,push_setk]
  rw [hl _ (by simp [s333_0])]
  simp [x333_0,EvCall_closed H.c321 rfl,q3,push_setk,push_setl]
 | false=>
  rw [hk] at q3
  simp only [dC,List.map_cons,List.map_nil] at q3 hl ⊢
  simp [f333,start,l1,t1,EvCall_closed H.c321 rfl,q1,push_setk]
  rw [hl _ (by simp [s333_0])]
  simp [x333_0,EvCall_closed H.c321 rfl,q3,push_setk,push_setl,d0]
end Go.Pv
/- The reference's worths: Right, Of, Mul, Div, Pow. Conditions: the functions' codes; theorems. -/
namespace Go.Pv
variable {E:Env}
def gtW (r:Except Int Wo):AV:=.agg (match r with | .ok w=>w.C++[.int .i64 0] | .error e=>wo0C++[.int .i64 e])
theorem right317 (H:Has 317 E) {w:Wo} (hw:WoOk w):EvClosed E (.fn (.func 317) [] []) [w.A] = some (.bool true):=by
 obtain ⟨f,d,tag⟩:=w
 have q1:=right318 (H.to 318) hw.f
 have q2:=dref_right (H.to 321) hw.len
 rw [hw.d] at q2
 obtain ⟨a0,a1,a2,a3,a4,a5,a6,hd⟩:=seven hw.len
 have h0:=hw.t0
 have h1:=hw.t1
 dsimp only at *
 subst hd
 simp only [Wo.A,Wo.C,fcA,fcC,dC,List.map_cons,List.map_nil,List.cons_append,List.nil_append] at *
 rw [EvClosed_eq H.c317 rfl (vs:=[.agg [.int .i64 f.num,.int .i64 f.den,.int .i64 f.ten,.int .i64 a0,.int .i64 a1,.int .i64 a2,.int .i64 a3,.int .i64 a4,.int .i64 a5,.int .i64 a6,.int .i64 tag]]) (by simp),EvFn_eq]
 simp [f317,start,EvCall_closed H.c318 rfl,EvCall_closed H.c321 rfl,q1,q2,h0,h1]
theorem may296 (H:Has 296 E) {a b:Wo} (ha:WoOk a) (hb:WoOk b):EvClosed E (.fn (.func 296) [] []) [a.A,b.A] = some (.int .i64 (if a.tag ≠ 0∨b.tag ≠ 0 then 18 else 0)):=by
 rw [EvClosed_eq H.c296 rfl (vs:=[a.A,b.A]) (by simp [Wo.A,Wo.C_shut]),EvFn_eq]
 have q1:=right317 (H.to 317) ha
 have q2:=right317 (H.to 317) hb
 obtain ⟨f,d,tag⟩:=a
 obtain ⟨f',d',tag'⟩:=b
 obtain ⟨a0,a1,a2,a3,a4,a5,a6,hd⟩:=seven ha.len
 obtain ⟨b0,b1,b2,b3,b4,b5,b6,hd'⟩:=seven hb.len
 dsimp only at *
 subst hd hd'
 simp only [Wo.A,Wo.C,fcC,dC,List.map_cons,List.map_nil,List.cons_append,List.nil_append] at *
 by_cases h1:tag = 0
 ·by_cases h2:tag' = 0
  ·subst h1 h2
   simp [f296,start,EvCall_closed H.c317 rfl,q1,q2]
  ·have h2':(tag' != 0) = true:=by simpa using h2
   subst h1
   simp [f296,start,EvCall_closed H.c317 rfl,q1,q2,h2,h2']
 ·have h1':(tag != 0) = true:=by simpa using h1
  simp [f296,start,EvCall_closed H.c317 rfl,q1,q2,h1,h1']
theorem put297 (H:Has 297 E) {r:Except Int Fc} {d:List Int} (hd:d.length = 7) (hne:∀ e,r = .error e→e ≠ 0):
  EvClosed E (.fn (.func 297) [] []) [gtF r,gtD d] = some (gtW (putR false r d)):=by
 have hz:(if dOk d then d else d0).length = 7:=by split; exact hd; rfl
 have hsh:shutL 0 0 (dC (if dOk d then d else d0)++[.bool (dOk d)]) = some (dC (if dOk d then d else d0)++[.bool (dOk d)]):=shutL_app _ _ (shutL_dC _) rfl
 rw [EvClosed_eq H.c297 rfl (vs:=[gtF r,gtD d]) (by
  cases r <;> simp [gtF,gtC,fcC,gtD,hsh]),EvFn_eq]
 cases r with
 | error e=>
  have he:(e != 0) = true:=by simpa using hne e rfl
  have l1:(dC (if dOk d then d else d0)++[AV.bool (dOk d)]).length = 8:=by simp [dC_len,hz]
  simp only [gtD]
  generalize (dC (if dOk d then d else d0)++[AV.bool (dOk d)]) = D at *
  simp [f297,start,gtF,gtC,he,l1,push_setk,gtW,putR,wo0C]
 | ok f=>
  unfold gtD
  cases hk:dOk d with
  | true=>
   obtain ⟨a0,a1,a2,a3,a4,a5,a6,rfl⟩:=seven hd
   simp [f297,start,gtF,gtC,fcC,dC,push_setk,gtW,putR,hk,Wo.C]
  | false=>
   simp [f297,start,gtF,gtC,fcC,dC,d0,push_setk,gtW,putR,hk,wo0C]
theorem gtW_shape {tg:Bool} {r:Except Int Fc} {d:List Int} (hd:d.length = 7):∃ (cs:List AV),gtW (putR tg r d) = .agg cs∧cs.length = 12∧cs.all AV.isCell = true∧shutL 0 0 cs = some cs:=by
 unfold putR
 cases tg with
 | true=>exact ⟨_,rfl,rfl,rfl,rfl⟩
 | false=>
  cases r with
  | error e=>exact ⟨_,rfl,rfl,rfl,rfl⟩
  | ok f=>
   cases hk:dOk d with
   | true=>exact ⟨(⟨f,d,0⟩:Wo).C++[.int .i64 0],by simp [gtW],by simp [Wo.C_len (w:=⟨f,d,0⟩) hd],by rw [List.all_append,Wo.C_all]; rfl,shutL_app _ _ (Wo.C_shut _) rfl⟩
   | false=>exact ⟨_,by simp [gtW]; rfl,rfl,rfl,rfl⟩
theorem putR_tag {r:Except Int Fc} {d:List Int}:putR true r d = .error 18:=rfl
abbrev z12C:List AV:=[.int .i64 0,.int .i64 0,.int .i64 0,.int .i64 0,.int .i64 0,.int .i64 0,.int .i64 0,.int .i64 0,.int .i64 0,.int .i64 0,.int .i64 0,.int .i64 0]
theorem set_12 {l:List AV} (h:l.length = 12):setCells 0 l z12C = l:=setCells_full (by rw [h]; rfl)
theorem gtF_cs (r:Except Int Fc):∃ cs,gtF r = .agg cs∧cs.length = 4:=by
 cases r with
 | ok f=>exact ⟨_,rfl,rfl⟩
 | error e=>exact ⟨_,rfl,rfl⟩
set_option maxRecDepth 20000 in
set_option maxHeartbeats 1000000 in
theorem mul284 (H:Has 284 E) {a b:Wo} (ha:WoOk a) (hb:WoOk b):EvClosed E (.fn (.func 284) [] []) [a.A,b.A] = some (gtW (mulW a b)):=by
 rw [EvClosed_eq H.c284 rfl (vs:=[a.A,b.A]) (by simp [Wo.A,Wo.C_shut]),EvFn_eq]
 have hz:(addD a.d b.d).length = 7:=by unfold addD; rw [List.length_zipWith,ha.len,hb.len]; rfl
 have q0:=may296 (H.to 296) ha hb
 have q1:=mul298 (H.to 298) ha.f hb.f
 have q2:=add299 (H.to 299) (n:=1) ha.len hb.len ha.d hb.d (Or.inl rfl) (v:=addD a.d b.d) hz (by intro i hi; simp [addD])
 have q3:=put297 (H.to 297) (r:=mulF a.f b.f) (d:=addD a.d b.d) hz (fun e he=>mulF_ne he)
 have l1:=Wo.C_len ha.len
 have l2:=Wo.C_len hb.len
 have t1:a.C.take 11 = a.C:=List.take_of_length_le (by omega)
 have t2:b.C.take 11 = b.C:=List.take_of_length_le (by omega)
 have u1:=Wo.C_f a
 have u2:=Wo.C_f b
 have u3:=Wo.C_d ha.len
 have u4:=Wo.C_d hb.len
 have l3:(dC a.d).length = 7:=by rw [dC_len,ha.len]
 have l4:(dC b.d).length = 7:=by rw [dC_len,hb.len]
 unfold mulW
 simp only [Wo.A,fcA] at *
 by_cases hp:a.tag ≠ 0∨b.tag ≠ 0
 ·rw [if_pos hp] at q0
  have:(decide (a.tag ≠ 0) || decide (b.tag ≠ 0)) = true:=by simpa using hp
  rw [this,putR_tag]
  generalize a.C = A at *
  generalize b.C = B at *
  simp [f284,start,l1,l2,t1,t2,EvCall_closed H.c296 rfl,q0,push_setk,gtW,wo0C]
 ·rw [if_neg hp] at q0
  have:(decide (a.tag ≠ 0) || decide (b.tag ≠ 0)) = false:=by simpa using hp
  rw [this]
  obtain ⟨cs,e1,e2,e3,e4⟩:=gtW_shape (tg:=false) (r:=mulF a.f b.f) hz
  rw [e1] at q3 ⊢
  have s0:=set_12 e2
  obtain ⟨F,e5,e6⟩:=gtF_cs (mulF a.f b.f)
  rw [e5] at q1 q3
  unfold gtD at q2 q3
  generalize dC (if dOk (addD a.d b.d) then addD a.d b.d else d0)++[.bool (dOk (addD a.d b.d))] = D at *
  generalize a.C = A at *
  generalize b.C = B at *
  generalize dC a.d = DA at *
  generalize dC b.d = DB at *
  generalize fcC a.f = FA at *
  generalize fcC b.f = FB at *
  have t3:cs.take 12 = cs:=List.take_of_length_le (by omega)
  simp [f284,start,l1,l2,t1,t2,u1,u2,u3,u4,EvCall_closed H.c296 rfl,q0,q1,q2,q3,s0,t3,e2,e3,e4,push_setk]
set_option maxRecDepth 20000 in
set_option maxHeartbeats 1000000 in
theorem pow307 (H:Has 307 E) {a:Wo} (ha:WoOk a) {n:Int} (n1:-99 ≤ n) (n2:n ≤ 99):EvClosed E (.fn (.func 307) [] []) [a.A,.int .i64 n] = some (gtW (powW a n)):=by
 rw [EvClosed_eq H.c307 rfl (vs:=[a.A,.int .i64 n]) (by simp [Wo.A,Wo.C_shut]),EvFn_eq]
 have hz:(mulD a.d n).length = 7:=by unfold mulD; rw [List.length_map,ha.len]
 have q0:=may296 (H.to 296) ha ha
 have q1:=pow332 (H.to 332) ha.f n1 n2
 have q2:=times333 (H.to 333) ha.len ha.d n1 n2
 have q3:=put297 (H.to 297) (r:=powF a.f n) (d:=mulD a.d n) hz (fun e he=>powF_ne he)
 have l1:=Wo.C_len ha.len
 have t1:a.C.take 11 = a.C:=List.take_of_length_le (by omega)
 have u1:=Wo.C_f a
 have u3:=Wo.C_d ha.len
 have l3:(dC a.d).length = 7:=by rw [dC_len,ha.len]
 have c1:¬ n < -99:=by omega
 have c2:¬ 99 < n:=by omega
 unfold powW
 simp only [Wo.A,fcA] at *
 by_cases hp:a.tag ≠ 0
 ·rw [if_pos (Or.inl hp)] at q0
  have:decide (a.tag ≠ 0) = true:=by simpa using hp
  rw [this,putR_tag]
  generalize a.C = A at *
  simp [f307,start,l1,t1,EvCall_closed H.c296 rfl,q0,c1,c2,push_setk,gtW,wo0C]
 ·rw [if_neg (by simpa using hp)] at q0
  have:decide (a.tag ≠ 0) = false:=by simpa using hp
  rw [this]
  obtain ⟨cs,e1,e2,e3,e4⟩:=gtW_shape (tg:=false) (r:=powF a.f n) hz
  rw [e1] at q3 ⊢
  have s0:=set_12 e2
  obtain ⟨F,e5,e6⟩:=gtF_cs (powF a.f n)
  rw [e5] at q1 q3
  unfold gtD at q2 q3
  generalize dC (if dOk (mulD a.d n) then mulD a.d n else d0)++[.bool (dOk (mulD a.d n))] = D at *
  generalize a.C = A at *
  generalize dC a.d = DA at *
  generalize fcC a.f = FA at *
  have t3:cs.take 12 = cs:=List.take_of_length_le (by omega)
  simp [f307,start,l1,t1,u1,u3,EvCall_closed H.c296 rfl,q0,q1,q2,q3,c1,c2,s0,t3,e2,e3,e4,push_setk]
theorem ofW_put (n:Int):ofW n = putR false (makeF n 1 0) d0:=by
 unfold ofW putR
 cases makeF n 1 0 <;> rfl
theorem makeF_ne {n d t e:Int} (h:makeF n d t = .error e):e ≠ 0:=by
 unfold makeF overE at h
 split at h
 ·cases h; decide
 ·split at h
  ·cases h
  ·split at h
   ·cases h; decide
   ·split at h
    ·cases h
    ·cases h; decide
end Go.Pv
/- What functions of the packages symbol, slices, strings come to. Conditions: the functions' codes; theorems. -/
namespace Go.Pv
variable {E:Env} {j:Nat}
def hasP (s p:List UInt8):Bool:=decide (p.length ≤ s.length) && (s.take p.length == p)
theorem hasPrefix_eq (H:Has 75 E) (s p:List UInt8):EvClosed E (.fn (.func 75) [] []) [.str s,.str p] = some (.bool (hasP s p)):=by
 rw [EvClosed_eq H.c75 rfl (vs:=[.str s,.str p]) (by simp),EvFn_eq]
 by_cases h:p.length ≤ s.length <;> simp [f75,start,h,hasP]
def cutP (s p:List UInt8):List UInt8 × Bool:=if hasP s p then (s.drop p.length,true) else (s,false)
theorem hasP_le {s p:List UInt8} (h:hasP s p = true):p.length ≤ s.length:=by
 simp only [hasP,Bool.and_eq_true,decide_eq_true_eq] at h
 exact h.1
theorem cutPrefix1_eq (H:Has 61 E) (s p:List UInt8):EvClosed E (.fn (.func 61) [] []) [.str s,.str p] = some (.tuple [.str (cutP s p).1,.bool (cutP s p).2]):=by
 rw [EvClosed_eq H.c61 rfl (vs:=[.str s,.str p]) (by simp),EvFn_eq]
 cases h:hasP s p
 ·simp [f61,start,EvCall_closed H.c75 rfl,hasPrefix_eq (H.to 75),cutP,h]
 ·have:=hasP_le h
  simp [f61,start,EvCall_closed H.c75 rfl,hasPrefix_eq (H.to 75),cutP,h,this]
theorem cutPrefix_eq (H:Has 41 E) (s p:List UInt8):EvClosed E (.fn (.func 41) [] []) [.str s,.str p] = some (.tuple [.str (cutP s p).1,.bool (cutP s p).2]):=by
 rw [EvClosed_eq H.c41 rfl (vs:=[.str s,.str p]) (by simp),EvFn_eq]
 simp [f41,start,EvCall_closed H.c61 rfl,cutPrefix1_eq (H.to 61)]
structure AtomR where
 c1:List UInt8
 c2:List UInt8
 c3:List UInt8
 c4:List UInt8
 c5:List UInt8
 metric:Bool
 tag:Int
 base:Int
 num:Int
 den:Int
 ten:Int
 terms:List (Int × Int)
def termCs (t:Int × Int):List AV:=[.int .i64 t.1,.int .i64 t.2]
def termsV (o:Own) (l:List (Int × Int)):AV:=if l.isEmpty then .nils else .vs o l.length (l.flatMap termCs)
def acs (o:Own) (a:AtomR):List AV:=[.str a.c1,.str a.c2,.str a.c3,.str a.c4,.str a.c5,.bool a.metric,.int .i64 a.tag,.int .i64 a.base,.int .i64 a.num,.int .i64 a.den,.int .i64 a.ten,termsV o a.terms]
def AtomR.code (a:AtomR) (n:Nat):List UInt8:=match n with | 0=>a.c1 | 1=>a.c2 | 2=>a.c3 | 3=>a.c4 | _=>a.c5
theorem acs_len (o:Own) (a:AtomR):(acs o a).length = 12:=by simp [acs]
theorem termsV_cell (o:Own) (l:List (Int × Int)):(termsV o l).isCell = true:=by unfold termsV; split <;> rfl
theorem acs_all (o:Own) (a:AtomR):(acs o a).all AV.isCell = true:=by simp [acs,termsV_cell]
def OwnOk (o:Own):Prop:=o = .full∨o = .shared
theorem shut_vs {o:Own} (ho:OwnOk o) {n t len:Nat} {cs:List AV} (h:shutL n t cs = some cs):shut n t (.vs o len cs) = some (.vs o len cs):=by
 rcases ho with rfl | rfl <;> simp [shut,h]
theorem acs_shut {o:Own} (ho:OwnOk o) (a:AtomR):shutL 0 0 (acs o a) = some (acs o a):=by
 have ht:shut 0 0 (termsV o a.terms) = some (termsV o a.terms):=by
  unfold termsV
  split
  ·simp
  ·exact shut_vs ho (shutL_flat (fun t=>by simp [termCs]) _)
 simp [acs,ht]
structure PrefR where
 c1:List UInt8
 c2:List UInt8
 c3:List UInt8
 c4:List UInt8
 c5:List UInt8
 ten:Int
def PrefR.cells (a:PrefR):List AV:=[.str a.c1,.str a.c2,.str a.c3,.str a.c4,.str a.c5,.int .i64 a.ten]
def PrefR.code (a:PrefR) (n:Nat):List UInt8:=match n with | 0=>a.c1 | 1=>a.c2 | 2=>a.c3 | 3=>a.c4 | _=>a.c5
theorem PrefR.len (a:PrefR):a.cells.length = 6:=by simp [PrefR.cells]
theorem PrefR.take (a:PrefR):a.cells.take 6 = a.cells:=by simp [PrefR.cells]
theorem PrefR.shut (a:PrefR):shutL 0 0 a.cells = some a.cells:=by simp [PrefR.cells]
theorem PrefR.all (a:PrefR):a.cells.all AV.isCell = true:=by simp [PrefR.cells]
theorem atom1_eq (H:Has 60 E) (o:Own) (a:AtomR) {h:AHeap} {rb rc n:Nat} {A P:AV} {code:List UInt8} (hn:n < 5) (hb:h.bl rb = some (.cells [A,P,.int .i64 ((n:Int) + 1)])) (hc:h.bl rc = some (.cells [.str code])):
  EvCall E (.fn (.func 60) [] [.ref rb 0,.ref rc 0]) [.agg (acs o a)] h = some (.ret (.bool (a.code n == code)),h):=by
 rw [EvCall_reader H.c60 rfl,EvFn_eq]
 have:n = 0∨n = 1∨n = 2∨n = 3∨n = 4:=by omega
 rcases this with rfl | rfl | rfl | rfl | rfl <;> simp [f60,start,acs,AtomR.code,hb,hc,blk_ne hb,blk_ne hc,w64]
theorem indexFunc_loop {α:Type} {cells:α→List AV} {p:α→Bool} {f:AV} {h:AHeap} {own:Own} {L:List α} (hl:∀ a,(cells a).length = 12) (hlen:L.length < 9223372036854775807)
  (hp:∀ a ∈ L,EvCall E f [.agg (cells a)] h = some (.ret (.bool (p a)),h)):∀ (n i:Nat),i + n = L.length→∀ F,mask k59_0 F = s59_0 (.vs own L.length (L.flatMap cells)) f (.int .i64 L.length) (.int .i64 i) →
   EvCode E (.loop k59_0 l59_0) F h = some (if idxV p (L.drop i) = -1 then (.exit 0,x59_0,h) else (.ret,r59 (.int .i64 (i + idxV p (L.drop i))),h))
 | 0,i,hi,F,hF=>by
  have hi':i = L.length:=by omega
  subst hi'
  rw [EvCode_loop,hF]
  simp [l59_0,s59_0,x59_0,idxV]
 | n + 1,i,hi,F,hF=>by
  have hlt:i < L.length:=by omega
  rw [EvCode_loop,hF,List.drop_eq_getElem_cons hlt,idxV_cons]
  have hpx:=hp L[i] (List.getElem_mem hlt)
  have ih:=indexFunc_loop (own:=own) hl hlen hp n (i + 1) (by omega)
  generalize EvCode E (.loop k59_0 l59_0) = lp at ih ⊢
  cases hpa:p L[i]
  ·rw [hpa] at hpx
   simp [l59_0,s59_0,hlt,fm_len hl,lt_at hlt,le_at hlt,fm_el hl hlt,hpx,w64 (n:=(i:Int) + 1)]
   rw [ih _ (by simp [s59_0])]
   rcases idxV_range p (L.drop (i + 1)) with hq | ⟨k,_,hq⟩
   ·simp [hq]
   ·rw [hq]
    rw [if_neg (by omega),if_neg (by omega),if_neg (by omega)]
    simp [r59]
    omega
  ·rw [hpa] at hpx
   simp [l59_0,s59_0,hlt,fm_len hl,lt_at hlt,le_at hlt,fm_el hl hlt,hpx,r59]
theorem indexFunc_eq (H:Has 59 E) {α:Type} {cells:α→List AV} {p:α→Bool} {f:AV} {h:AHeap} {L:List α} (hl:∀ a,(cells a).length = 12) (hlen:L.length < 9223372036854775807) {own:Own}
  (hp:∀ a ∈ L,EvCall E f [.agg (cells a)] h.still = some (.ret (.bool (p a)),h.still)):EvCall E (.fn (.func 59) [] []) [.vs own L.length (L.flatMap cells),f] h = some (.ret (.int .i64 (idxV p L)),h):=by
 rw [EvCall_reader H.c59 rfl,EvFn_eq]
 have hk:=indexFunc_loop (own:=own) hl hlen hp L.length 0 (by omega)
 simp [f59,start]
 rw [hk _ (by simp [s59_0])]
 by_cases hq:idxV p L = -1 <;> simp [hq,x59_0,r59]
end Go.Pv
