/- A part of the proof: functions of the program in the evaluator's code, and what they come to. Conditions: none; definitions and theorems that the statement's proof uses. -/
import Derived.Test.YtamopjeecnhfaaaGreatDoorSetwPcEv4
import Derived.Test.YtamopjeecnhfaaaGreatDoorSetwPcMay
/- What the program says a symbol is worth. Conditions: the functions' codes; theorems. -/
namespace Go.Pv
variable {E:Env}
def prefTen (p:Int):Int:=match prefsT[p.toNat]? with | some q=>q.ten | none=>0
def fracW (p a:Int):Except Int Fc:=if 0 ≤ p then mulF (worthT.getD a.toNat oneW).f ⟨1,1,prefTen p⟩ else .ok (worthT.getD a.toNat oneW).f
def powN1 (w:Wo) (n:Int):Except Int Wo:=if n = 1 then .ok w else powW w n
def symW (p a n:Int):Except Int Wo:=
 match fracW p a with
 | .error e=>.error e
 | .ok f=>powN1 ⟨f,(worthT.getD a.toNat oneW).d,(worthT.getD a.toNat oneW).tag⟩ n
def symR (x:StepA):Except Int Wo:=if x.op = 2∧mayB x = true then symW x.pfx x.atom x.n else .error 1
theorem soundB_one {x:StepA} (h:x.op = 2):soundB [x] = mayB x:=by
 unfold soundB
 simp only [walkB,h,takesI]
 cases mayB x <;> simp
theorem pref_ok {p:Int} (h0:0 ≤ p) (h1:p < prefsT.length):FcOk ⟨1,1,prefTen p⟩:=by
 unfold prefTen
 have hp:p.toNat < prefsT.length:=by omega
 rw [List.getElem?_eq_getElem hp]
 have:∀ q ∈ prefsT,fcB ⟨1,1,q.ten⟩ = true:=by decide
 exact fcB_ok (this _ (List.getElem_mem hp))
theorem symB_in {p a n:Int} (h:symB p a n = true):(0 ≤ a∧a < atomsT.length)∧(-1 ≤ p∧p < prefsT.length)∧(-99 ≤ n∧n ≤ 99)∧(p = -1∨metricT a = true):=by
 unfold symB at h
 simp only [Bool.and_eq_true,decide_eq_true_eq,Bool.or_eq_true,beq_iff_eq] at h
 obtain ⟨h1,h2,h3,h4,h5,h6,h7⟩:=h
 exact ⟨⟨h1,h2⟩,⟨h3,h4⟩,⟨h5,h6⟩,h7⟩
theorem mayB_two {x:StepA} (h2:x.op = 2) (h:mayB x = true):symB x.pfx x.atom x.n = true∧x.num = 0∧x.text = []:=by
 unfold mayB at h
 rw [if_neg (by omega),if_pos h2] at h
 simp only [Bool.and_eq_true,beq_iff_eq] at h
 exact h
theorem worth_ok {a:Int} (h0:0 ≤ a) (h1:a < atomsT.length):WoOk (worthT.getD a.toNat oneW)∧(worthT.getD a.toNat oneW).f.num ≠ 0:=by
 obtain ⟨_,h2,h3⟩:=row_at (i:=a.toNat) (by omega)
 exact ⟨h2,h3⟩
theorem fracW_ok {p a:Int} (a0:0 ≤ a) (a1:a < atomsT.length) (p1:p < prefsT.length) {f:Fc} (h:fracW p a = .ok f):FcOk f:=by
 unfold fracW at h
 split at h
 ·rename_i hp
  exact mulF_ok (worth_ok a0 a1).1.f (pref_ok hp p1) h
 ·cases h
  exact (worth_ok a0 a1).1.f
theorem symW_ok {p a n:Int} (a0:0 ≤ a) (a1:a < atomsT.length) (p1:p < prefsT.length) {w:Wo} (h:symW p a n = .ok w):WoOk w:=by
 unfold symW at h
 split at h
 ·cases h
 ·rename_i f hf
  have hfo:=fracW_ok a0 a1 p1 hf
  have hw:=(worth_ok a0 a1).1
  have h1:WoOk ⟨f,(worthT.getD a.toNat oneW).d,(worthT.getD a.toNat oneW).tag⟩:=⟨hfo,hw.len,hw.d,hw.t0,hw.t1⟩
  unfold powN1 at h
  split at h
  ·cases h; exact h1
  ·exact powW_ok h1 h
theorem pref_cells {p:Int} (h0:0 ≤ p) (h1:p < prefsT.length):((prefsT.flatMap PrefR.cells).drop (p.toNat * 6 + 5)).take 1 = [.int .i64 (prefTen p)]:=by
 have hp:p.toNat < prefsT.length:=by omega
 rw [fm_at PrefR.len hp (by omega)]
 unfold prefTen
 rw [List.getElem?_eq_getElem hp]
 rfl
theorem frac_C' (f:Fc) (w:Wo):((w.C.set 0 (.int .i64 f.num)).set 1 (.int .i64 f.den)).set 2 (.int .i64 f.ten) = (⟨f,w.d,w.tag⟩:Wo).C:=by simp [fcC,Wo.C,dC]
theorem atomR_in {a:Int} (h0:0 ≤ a) (h1:a < atomsT.length):atomR a = .ok (worthT.getD a.toNat oneW):=by
 unfold atomR; rw [if_pos ⟨h0,h1⟩]
set_option maxRecDepth 20000 in
set_option maxHeartbeats 2000000 in
theorem symbol287 (H:Has 287 E) (x:StepA):EvClosed E (.fn (.func 287) [] []) [.agg x.cs] = some (rsW (symR x)):=by
 rw [EvClosed_eq H.c287 rfl (vs:=[.agg x.cs]) (by simp [StepA.shut]),EvFn_eq]
 have hs:=sound168_gen (H.to 168) (v:=.vs .full 1 x.cs) (t:=[x]) (.inr ⟨.full,by simp⟩) (by simp)
 obtain ⟨op,p,a,n,num,text⟩:=x
 unfold symR
 dsimp only at *
 by_cases h2:op = 2
 ·subst h2
  rw [soundB_one rfl] at hs
  cases hm:mayB ⟨2,p,a,n,num,text⟩ with
  | false=>
   rw [hm] at hs
   simp only [StepA.cs] at hs ⊢
   simp [f287,start,EvCall_closed H.c168 rfl,hs,push_setk,rsW,wo0C]
  | true=>
   rw [hm] at hs
   obtain ⟨hsy,hnum,htx⟩:=mayB_two (x:=⟨2,p,a,n,num,text⟩) rfl hm
   dsimp only at hsy hnum htx
   obtain ⟨⟨a0,a1⟩,⟨p0,p1⟩,⟨n0,n1⟩,_⟩:=symB_in hsy
   have q1:=atom288 (H.to 288) a
   rw [atomR_in a0 a1,rsW_ok] at q1
   obtain ⟨wok,_⟩:=worth_ok a0 a1
   rw [if_pos ⟨rfl,rfl⟩]
   unfold symW
   generalize hW:worthT.getD a.toNat oneW = W at *
   have lw:=Wo.C_len wok.len
   have tw:W.C.take 11 = W.C:=List.take_of_length_le (by omega)
   have sw:setCells 0 W.C z11C = W.C:=set_11 lw
   have aw:=Wo.C_all W
   have ss:=Wo.C_shut W
   simp only [StepA.cs] at hs ⊢
   by_cases hp:0 ≤ p
   ·have hpo:=pref_ok hp p1
    have hq:=mul302 (H.to 302) wok.f hpo
    have q2:=table_eq (H.to 38)
    have hfr:fracW p a = mulF W.f ⟨1,1,prefTen p⟩:=by unfold fracW; rw [if_pos hp,hW]
    rw [hfr]
    have hpc:=pref_cells hp p1
    have hpl:(prefsT.flatMap PrefR.cells).length = prefsT.length * 6:=fm_len PrefR.len prefsT
    have h20:prefsT.length = 20:=rfl
    rw [h20] at hpl p1
    have e1:p < 20:=p1
    have e2:p.toNat * 6 < 120:=by omega
    have e3:5 < 120 - p.toNat * 6:=by omega
    have e4:1 ≤ 115 - p.toNat * 6:=by omega
    have u1:=Wo.C_f W
    have hA:progB.A.isCell = true:=rfl
    simp only [Tb.V] at q2
    have hP:progB.P = .vs .shared 20 (prefsT.flatMap PrefR.cells):=rfl
    rw [hP] at q2
    generalize (prefsT.flatMap PrefR.cells) = PC at *
    generalize progB.A = A0 at *
    simp only [fcA,fcC,show ((1:Nat):Int) = 1 from rfl] at hq u1
    cases hmf:mulF W.f ⟨1,1,prefTen p⟩ with
    | error e=>
     have he:(e != 0) = true:=by simpa using mulF_ne hmf
     rw [hmf] at hq
     simp only [rsF,fc0] at hq
     generalize W.C = WC at *
     simp [f287,start,EvCall_closed H.c168 rfl,EvCall_closed H.c288 rfl,hs,q1,q2,lw,sw,aw,hp,hpc,hpl,e1,e2,e3,e4,u1,hq,he,push_setk,push_setl,rsW,wo0C]
    | ok f=>
     have hfo:=fracW_ok (p:=p) a0 a1 p1 (hfr.trans hmf)
     have hw2:WoOk ⟨f,W.d,W.tag⟩:=⟨hfo,wok.len,wok.d,wok.t0,wok.t1⟩
     have hfC:=frac_C' f W
     rw [hmf] at hq
     simp only [rsF,fcA,fcC] at hq
     unfold powN1
     have lw2:=Wo.C_len hw2.len
     have tw2:(⟨f,W.d,W.tag⟩:Wo).C.take 11 = (⟨f,W.d,W.tag⟩:Wo).C:=List.take_of_length_le (by omega)
     have sw2:setCells 0 (⟨f,W.d,W.tag⟩:Wo).C z11C = (⟨f,W.d,W.tag⟩:Wo).C:=set_11 lw2
     have aw2:=Wo.C_all (⟨f,W.d,W.tag⟩:Wo)
     have ss2:=Wo.C_shut (⟨f,W.d,W.tag⟩:Wo)
     have q3:=powW_eq (H.to 303) hw2 n0 n1
     by_cases hn:n = 1
     ·subst hn
      dsimp only
      rw [if_pos rfl,rsW_ok]
      generalize (⟨f,W.d,W.tag⟩:Wo).C = W2 at *
      generalize W.C = WC at *
      simp [f287,start,EvCall_closed H.c168 rfl,EvCall_closed H.c288 rfl,hs,q1,q2,lw,sw,aw,hp,hpc,hpl,e1,e2,e3,e4,u1,hq,hfC,lw2,tw2,sw2,aw2,ss2,push_setk,push_setl]
     ·dsimp only
      rw [if_neg hn]
      have hn':(n != 1) = true:=by simpa using hn
      obtain ⟨cs,e,r1,r2,r3,r4⟩:=putR_d (tg:=decide (W.tag ≠ 0)) (r:=powF f n) (d:=mulD W.d n) (by unfold mulD; rw [List.length_map,wok.len])
      have hpw:powW ⟨f,W.d,W.tag⟩ n = putR (decide (W.tag ≠ 0)) (powF f n) (mulD W.d n):=rfl
      rw [hpw,r1] at q3 ⊢
      have tc:cs.take 11 = cs:=List.take_of_length_le (by omega)
      have sc:setCells 0 cs z11C = cs:=set_11 r2
      simp only [Wo.A] at q3
      generalize (⟨f,W.d,W.tag⟩:Wo).C = W2 at *
      generalize W.C = WC at *
      simp [f287,start,EvCall_closed H.c168 rfl,EvCall_closed H.c288 rfl,EvCall_closed H.c303 rfl,hs,q1,q2,q3,lw,sw,aw,hp,hpc,hpl,e1,e2,e3,e4,u1,hq,hfC,lw2,tw2,hn',r2,r3,r4,tc,sc,push_setk,push_setl]
   ·have hfr:fracW p a = .ok W.f:=by unfold fracW; rw [if_neg hp,hW]
    rw [hfr]
    have hp':p < 0:=by omega
    unfold powN1
    have q3:=powW_eq (H.to 303) wok n0 n1
    by_cases hn:n = 1
    ·subst hn
     dsimp only
     rw [if_pos rfl,rsW_ok]
     generalize W.C = WC at *
     simp [f287,start,EvCall_closed H.c168 rfl,EvCall_closed H.c288 rfl,hs,q1,lw,tw,sw,aw,ss,hp,push_setk,push_setl]
    ·dsimp only
     rw [if_neg hn]
     have hn':(n != 1) = true:=by simpa using hn
     obtain ⟨cs,e,r1,r2,r3,r4⟩:=putR_d (tg:=decide (W.tag ≠ 0)) (r:=powF W.f n) (d:=mulD W.d n) (by unfold mulD; rw [List.length_map,wok.len])
     have hpw:powW W n = putR (decide (W.tag ≠ 0)) (powF W.f n) (mulD W.d n):=rfl
     rw [hpw,r1] at q3 ⊢
     have tc:cs.take 11 = cs:=List.take_of_length_le (by omega)
     have sc:setCells 0 cs z11C = cs:=set_11 r2
     simp only [Wo.A] at q3
     generalize W.C = WC at *
     simp [f287,start,EvCall_closed H.c168 rfl,EvCall_closed H.c288 rfl,EvCall_closed H.c303 rfl,hs,q1,q3,lw,tw,sw,aw,hp,hn',r2,r3,r4,tc,sc,push_setk,push_setl]
 ·have h2':(op != 2) = true:=by simpa using h2
  simp only [StepA.cs]
  simp [f287,start,h2,h2',push_setk,rsW,wo0C]
end Go.Pv
