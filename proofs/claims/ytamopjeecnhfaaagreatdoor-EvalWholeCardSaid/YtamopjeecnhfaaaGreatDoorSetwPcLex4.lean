/- A part of the proof: functions of the program in the evaluator's code, and what they come to. Conditions: none; definitions and theorems that the statement's proof uses. -/
import Derived.Test.YtamopjeecnhfaaaGreatDoorSetwPcStyle
import Derived.Test.YtamopjeecnhfaaaGreatDoorSetwPcFr26
import Derived.Test.YtamopjeecnhfaaaGreatDoorSetwPcEv1
/- Tokens: what the reference's Each comes to. Conditions: the functions' codes; theorems. -/
namespace Go.Pv
variable {E:Env}
def lexF (x:Int):Nat→List UInt8→Nat→List Tok × Nat
 | 0,_,p=>([],p)
 | f + 1,s,p=>
  match nextS x s with
  | none=>([],p)
  | some (k,t,n,l)=>(⟨k,p,t,n⟩ :: (lexF x f (s.drop l) (p + l)).1,(lexF x f (s.drop l) (p + l)).2)
theorem next_len {x:Int} {s:List UInt8} {k:Int} {t:List UInt8} {n:Int} {l:Nat} (h:nextS x s = some (k,t,n,l)):1 ≤ l∧l ≤ s.length:=by
 cases s with
 | nil=>cases h
 | cons c r=>
  simp only [nextS] at h
  have r1:=runL_le x 1 (c :: r)
  have r2:=runL_le x 2 (c :: r)
  split at h
  ·cases h
  ·split at h
   ·rename_i hk
    cases h
    refine ⟨?_,r1⟩
    simp only [runL,hk,if_true]
    omega
   ·split at h
    ·rename_i hk
     cases hn:numOf ((c :: r).take (runL x 2 (c :: r))) with
     | none=>rw [hn] at h; cases h
     | some v=>
      rw [hn] at h
      cases h
      refine ⟨?_,r2⟩
      simp only [runL,hk,if_true]
      omega
    ·split at h
     ·cases hn:noteS x r with
      | none=>rw [hn] at h; cases h
      | some v=>
       rw [hn] at h
       cases h
       unfold noteS at hn
       simp only at hn
       split at hn
       ·rename_i hq
        simp only [Bool.and_eq_true,decide_eq_true_eq] at hq
        cases hn
        simp
        omega
       ·cases hn
     ·cases h
      simp
def toksV (l:List Tok):AV:=if l.isEmpty then .nils else .vs .shared l.length (l.flatMap Tok.cs)
theorem grow_shut {h:AHeap} {l:List Tok} {v:AV} (g:Grow h 4 (l.flatMap Tok.cs) l.length v):shut 0 0 v = some (toksV l):=by
 have hs:=shutL_flat (n:=0) (t:=0) (f:=Tok.cs) (fun t=>t.shut) l
 rcases g with ⟨rfl,_,h2⟩ | ⟨k,rfl,_,_,_,h5⟩
 ·have:l = []:=List.length_eq_zero_iff.1 h2
  subst this
  simp [toksV]
 ·have he:l.isEmpty = false:=by
   cases l with
   | nil=>simp at h5
   | cons a l=>rfl
  simp [toksV,he,hs]
def lexS (x:Int) (s:List UInt8):List Tok × Nat:=lexF x s.length s 0
end Go.Pv
/- Tokens: what the reference's Join comes to. Conditions: the functions' codes; theorems. -/
namespace Go.Pv
variable {E:Env}
theorem toksV_shut (l:List Tok):shut 0 0 (toksV l) = some (toksV l):=by
 have hs:=shutL_flat (n:=0) (t:=0) (f:=Tok.cs) (fun t=>t.shut) l
 unfold toksV
 split <;> simp [hs]
end Go.Pv
/- What Go's ParseUint comes to on digits. Conditions: the functions' codes; theorems. -/
namespace Go.Pv
variable {E:Env}
def big2:Nat:=18446744073709551616
theorem big2_eq:big2 = 18446744073709551616:=rfl
attribute [irreducible] big2
theorem wu64 {n:Int} (h1:0 ≤ n:=by omega) (h2:n < 18446744073709551616:=by omega):IntKind.u64.wrap n = n:=by
 simp [IntKind.wrap,IntKind.signed,IntKind.bits]
 omega
set_option maxRecDepth 10000 in
set_option maxHeartbeats 1000000 in
theorem uint_loop {h:AHeap} {s0:AV} {b:Nat}:∀ (rest pre:List UInt8) (n:Nat),h.bl b = some (.cells ((pre++rest).map b8))→digits rest→n < big2→pre.length + rest.length < 1000000→∀ F,
  mask k88_0 F = s88_0 (.int .i64 10) (.bool false) s0 (.int .u64 1844674407370955162) (.int .u64 18446744073709551615) (.bool false) (.int .u64 n) (.rs b 0 (pre++rest).length) (.int .i64 (pre++rest).length) (.int .i64 pre.length) →
  EvCode E (.loop k88_0 l88_0) F h = some (if dvalF n rest < big2 then (.exit 3,x88_3 s0 (.bool false) (.int .u64 (dvalF n rest)),h) else (.ret,r88 (.int .u64 18446744073709551615) (.iface 1 (.int .i64 1)),h))
 | [],pre,n,hb,hd,hn,hlen,F,hF=>by
  have h0:dvalF n [] = n:=rfl
  rw [EvCode_loop,hF,h0,if_pos hn]
  simp [l88_0,s88_0,x88_3]
 | c :: rest,pre,n,hb,hd,hn,hlen,F,hF=>by
  have hdr:digits rest:=fun x hx=>hd x (List.mem_cons_of_mem _ hx)
  obtain ⟨d1,d2,d3⟩:=dig_lt (hd c List.mem_cons_self)
  have ih:=fun hh=>uint_loop (h:=h) (s0:=s0) (b:=b) rest (pre++[c]) (n * 10 + dig c) (by simpa using hb) hdr hh (by simp at hlen ⊢; omega)
  rw [EvCode_loop,hF,show dvalF n (c :: rest) = dvalF (n * 10 + dig c) rest from rfl]
  generalize EvCode E (.loop k88_0 l88_0) = lp at ih ⊢
  simp only [List.length_cons] at hlen
  have hge:=dvalF_ge rest (n * 10 + dig c)
  rw [big2_eq] at hn
  have hlt:(pre.length:Int) < (pre.length:Int) + ((rest.length:Int) + 1):=by omega
  have w1:IntKind.u8.wrap ((c.toNat:Int) - 48) = dig c:=by rw [IntKind.wrap_u8]; unfold dig; omega
  have w2:IntKind.u8.wrap 10 = 10:=by rw [IntKind.wrap_u8]; rfl
  have w3:IntKind.u64.wrap 10 = 10:=wu64
  have w4:IntKind.u64.wrap (dig c:Int) = dig c:=wu64
  have c1:((c.toNat:Int) == 95) = false:=by simp; omega
  have c2:decide ((48:Int) ≤ c.toNat) = true:=decide_eq_true (by omega)
  have c3:decide ((c.toNat:Int) ≤ 57) = true:=decide_eq_true (by omega)
  have c4:decide ((10:Int) ≤ dig c) = false:=decide_eq_false (by omega)
  have hpa:=pre_at pre c rest
  simp only [List.map_append,List.map_cons,b8] at hb hpa
  have hp1:pre.length < pre.length + (rest.length + 1):=by omega
  by_cases hcut:1844674407370955162 ≤ n
  ·have c5:decide ((1844674407370955162:Int) ≤ n) = true:=decide_eq_true (by omega)
   rw [if_neg (by rw [big2_eq]; omega)]
   simp [l88_0,s88_0,hlt,hb,w1,w2,c1,c2,c3,c4,c5,r88]
  ·have c5:decide ((1844674407370955162:Int) ≤ n) = false:=decide_eq_false (by omega)
   have w5:IntKind.u64.wrap ((n:Int) * 10) = (n:Int) * 10:=wu64
   by_cases hov:n * 10 + dig c < 18446744073709551616
   ·have w6:IntKind.u64.wrap ((n:Int) * 10 + dig c) = (n:Int) * 10 + dig c:=wu64
    have c6:decide ((n:Int) * 10 + dig c < (n:Int) * 10) = false:=decide_eq_false (by omega)
    have c7:decide ((18446744073709551615:Int) < (n:Int) * 10 + dig c) = false:=decide_eq_false (by omega)
    simp [l88_0,s88_0,hlt,hb,w1,w2,w3,w4,w5,w6,c1,c2,c3,c4,c5,c6,c7,w64 (n:=(pre.length:Int) + 1)]
    rw [ih (by rw [big2_eq]; exact hov) _ (by simp [s88_0])]
   ·obtain ⟨z,hz⟩:∃ z,IntKind.u64.wrap ((n:Int) * 10 + dig c) = z:=⟨_,rfl⟩
    have hz2:z = (n:Int) * 10 + dig c - 18446744073709551616:=by
     rw [← hz]
     simp [IntKind.wrap,IntKind.signed,IntKind.bits]
     omega
    have c6:decide (z < (n:Int) * 10) = true:=decide_eq_true (by omega)
    rw [if_neg (by rw [big2_eq]; omega)]
    simp [l88_0,s88_0,hlt,hb,w1,w2,w3,w4,w5,hz,c1,c2,c3,c4,c5,c6,r88]
end Go.Pv
/- What Go's ParseUint, ParseInt come to on digits. Conditions: the functions' codes; theorems. -/
namespace Go.Pv
variable {E:Env}
def uintV (s:List UInt8):AV:=if dvalF 0 s < big2 then .tuple [.int .u64 (dvalF 0 s),.niliface] else .tuple [.int .u64 18446744073709551615,.iface 1 (.int .i64 1)]
set_option maxRecDepth 10000 in
set_option maxHeartbeats 1000000 in
theorem parseUint_eq (H:Has 88 E) (s:List UInt8) (hd:digits s) (hne:s.isEmpty = false) (hs:s.length < 1000000):EvClosed E (.fn (.func 88) [] []) [.str s,.int .i64 10,.int .i64 64] = some (uintV s):=by
 rw [EvClosed_eq H.c88 rfl (vs:=[.str s,.int .i64 10,.int .i64 64]) (by simp),EvFn_eq]
 have hl:=fun h hb=>uint_loop (E:=E) (h:=h) (s0:=.str s) (b:=0) s [] 0 hb hd (by rw [big2_eq]; omega) (by simp; omega)
 simp only [List.nil_append,List.length_nil] at hl
 have w1:IntKind.u64.wrap 64 = 64:=wu64
 have b1:IntKind.u64.bits = 64:=rfl
 have w2:IntKind.u64.wrap 18446744073709551616 = 0:=by decide +kernel
 have w3:IntKind.u64.wrap (-1) = 18446744073709551615:=by decide +kernel
 simp [f88,start,hne,w1,w2,w3,b1,(by omega:s.length ≤ 140737488355328)]
 rw [hl _ (by simp) _ (by simp [s88_0])]
 unfold uintV
 by_cases hv:dvalF 0 s < big2
 ·simp [hv,x88_3]
 ·simp [hv,r88]
end Go.Pv
/- What Go's ParseInt comes to on digits. Conditions: the functions' codes; theorems. -/
namespace Go.Pv
variable {E:Env}
def intV (s:List UInt8):AV:=if dvalF 0 s < big then .tuple [.int .i64 (dvalF 0 s),.niliface] else .tuple [.int .i64 9223372036854775807,.iface 1 (.int .i64 1)]
set_option maxRecDepth 10000 in
set_option maxHeartbeats 1000000 in
theorem parseInt79_eq (H:Has 79 E) (s:List UInt8) (hd:digits s) (hne:s.isEmpty = false) (hs:s.length < 1000000):EvClosed E (.fn (.func 79) [] []) [.str s,.int .i64 10,.int .i64 64] = some (intV s):=by
 rw [EvClosed_eq H.c79 rfl (vs:=[.str s,.int .i64 10,.int .i64 64]) (by simp),EvFn_eq]
 have hu:=parseUint_eq (H.to 88) s hd hne hs
 obtain ⟨c,r,rfl⟩:∃ c r,s = c :: r:=by
  cases s with
  | nil=>simp at hne
  | cons c r=>exact ⟨c,r,rfl⟩
 obtain ⟨d1,d2,d3⟩:=dig_lt (hd c List.mem_cons_self)
 have c1:((c.toNat:Int) == 43) = false:=by simp; omega
 have c2:((c.toNat:Int) == 45) = false:=by simp; omega
 have w1:IntKind.u64.wrap 63 = 63:=wu64
 have b1:IntKind.u64.bits = 64:=rfl
 have w2:IntKind.u64.wrap 9223372036854775808 = 9223372036854775808:=wu64
 have w3:IntKind.u64.wrap 9223372036854775807 = 9223372036854775807:=wu64
 have w4:IntKind.i64.wrap 9223372036854775807 = 9223372036854775807:=w64
 have w5:IntKind.i64.wrap 63 = 63:=w64
 unfold uintV at hu
 unfold intV
 generalize dvalF 0 (c :: r) = v at hu ⊢
 by_cases hv:v < big2
 ·rw [if_pos hv] at hu
  rw [big2_eq] at hv
  by_cases hb:v < big
  ·rw [if_pos hb]
   rw [big_eq] at hb
   have c3:decide ((9223372036854775808:Int) ≤ v) = false:=decide_eq_false (by omega)
   have w6:IntKind.i64.wrap (v:Int) = v:=w64
   simp [f79,start,c1,c2,EvCall_closed H.c88 rfl,hu,w1,w2,w5,w6,b1,c3]
  ·rw [if_neg hb]
   rw [big_eq] at hb
   have c3:decide ((9223372036854775808:Int) ≤ v) = true:=decide_eq_true (by omega)
   simp [f79,start,c1,c2,EvCall_closed H.c88 rfl,hu,w1,w2,w3,w4,w5,b1,c3]
 ·rw [if_neg hv] at hu
  have hb:¬ v < big:=by rw [big2_eq] at hv; rw [big_eq]; omega
  rw [if_neg hb]
  simp [f79,start,c1,c2,EvCall_closed H.c88 rfl,hu,w1,w2,w3,w4,w5,b1]
theorem g3_eq:globAll 3 = some [.iface 3 (.pin [.str [118,97,108,117,101,32,111,117,116,32,111,102,32,114,97,110,103,101]])]:=by rfl
theorem rangeError_eq (H:Has 90 E) (f s:List UInt8) (hs:s.length ≤ 1000000) (h:AHeap):∃ cs,EvCall E (.fn (.func 90) [] []) [.str f,.str s] h = some (.ret (.ref h.blks.length 0),h.push (.cells cs)):=by
 refine ⟨[.str f,.str s,.iface 3 (.pin [.str [118,97,108,117,101,32,111,117,116,32,111,102,32,114,97,110,103,101]])],?_⟩
 rw [EvCall_open H.c90 rfl,EvFn_eq]
 have hg:=H.v3
 rw [g3_eq] at hg
 simp [f90,start,EvClosed_ext H.x98,extCl,hs,hg]
theorem toError_eq (H:Has 80 E) (f s:List UInt8) (hs:s.length ≤ 1000000) (h:AHeap):∃ cs,EvCall E (.fn (.func 80) [] []) [.str f,.str s,.int .i64 10,.int .i64 64,.iface 1 (.int .i64 1)] h = some (.ret (.iface 2 (.ref h.blks.length 0)),h.push (.cells cs)):=by
 obtain ⟨cs,hc⟩:=rangeError_eq (H.to 90) f s hs h
 refine ⟨cs,?_⟩
 rw [EvCall_open H.c80 rfl,EvFn_eq]
 simp [f80,start,hc]
theorem parseInt_ok (H:Has 65 E) (s:List UInt8) (hd:digits s) (hne:s.isEmpty = false) (hs:s.length < 1000000) (hv:dvalF 0 s < big) (h:AHeap):EvCall E (.fn (.func 65) [] []) [.str s,.int .i64 10,.int .i64 64] h = some (.ret (.tuple [.int .i64 (dvalF 0 s),.niliface]),h):=by
 rw [EvCall_open H.c65 rfl,EvFn_eq]
 have hu:=parseInt79_eq (H.to 79) s hd hne hs
 rw [intV,if_pos hv] at hu
 simp [f65,start,EvCall_closed H.c79 rfl,hu]
theorem parseInt_bad (H:Has 65 E) (s:List UInt8) (hd:digits s) (hne:s.isEmpty = false) (hs:s.length < 1000000) (hv:¬ dvalF 0 s < big) (h:AHeap):∃ cs,EvCall E (.fn (.func 65) [] []) [.str s,.int .i64 10,.int .i64 64] h = some (.ret (.tuple [.int .i64 9223372036854775807,.iface 2 (.ref h.blks.length 0)]),h.push (.cells cs)):=by
 obtain ⟨cs,hc⟩:=toError_eq (H.to 80) [80,97,114,115,101,73,110,116] s (by omega) h
 refine ⟨cs,?_⟩
 rw [EvCall_open H.c65 rfl,EvFn_eq]
 have hu:=parseInt79_eq (H.to 79) s hd hne hs
 rw [intV,if_neg hv] at hu
 simp [f65,start,EvCall_closed H.c79 rfl,hu,hc]
end Go.Pv
/- Tokens: what the program's next comes to. Conditions: the functions' codes; theorems. -/
namespace Go.Pv
variable {E:Env}
def got47:Option (Int × List UInt8 × Int × Nat)→AV
 | none=>.tuple [.agg [.int .i64 0,.int .i64 0,.str [],.int .i64 0],.int .i64 0]
 | some (k,t,n,l)=>.tuple [.agg [.int .i64 k,.int .i64 0,.str t,.int .i64 n],.int .i64 l]
theorem idxByte_find (c:UInt8):∀ (s:List UInt8),idxByte s (c.toNat:Int) = if s.findIdx (· == c) < s.length then (s.findIdx (· == c):Int) else -1
 | []=>by simp [idxByte]
 | d :: s=>by
  have ih:=idxByte_find c s
  have hu:((d.toNat:Int) = (c.toNat:Int)) ↔ (d == c) = true:=by
   have:=u8i d c
   rw [← this]
   simp
  simp only [idxByte]
  by_cases hd:(d == c) = true
  ·have hf:(d :: s).findIdx (· == c) = 0:=by rw [List.findIdx_cons]; simp only [hd]; rfl
   rw [if_pos (hu.2 hd),hf]
   simp
  ·have hd':(d == c) = false:=by simpa using hd
   have hf:(d :: s).findIdx (· == c) = s.findIdx (· == c) + 1:=by rw [List.findIdx_cons]; simp only [hd']; rfl
   rw [if_neg (fun h=>hd (hu.1 h)),hf,ih]
   simp only [List.length_cons]
   generalize s.findIdx (· == c) = i
   by_cases hl:i < s.length
   ·rw [if_pos hl,if_neg (by omega),if_pos (by omega)]
    omega
   ·rw [if_neg hl,if_pos rfl,if_neg (by omega)]
theorem indexByte_eq (H:Has 66 E) (s:List UInt8) (c:UInt8):EvClosed E (.fn (.func 66) [] []) [.str s,.int .u8 c.toNat] = some (.int .i64 (idxByte s c.toNat)):=by
 rw [EvClosed_eq H.c66 rfl (vs:=[.str s,.int .u8 c.toNat]) (by simp),EvFn_eq]
 simp [f66,start,EvCall_ext H.x81,EvClosed_ext H.x81,extIB,(by have:=c.toNat_lt; omega:(c.toNat:Int) ≤ 255)]
theorem opn_cls {x:Int} {c:UInt8} (h:(kind x c == 9) = true):(c == (sty x).cls) = false∧isN x = true:=by
 unfold kind at h
 cases hn:isN x
 ·rw [hn] at h; simp at h
 ·rw [hn] at h
  simp only [if_true] at h
  refine ⟨?_,rfl⟩
  cases hc:(c == (sty x).cls)
  ·rfl
  ·exfalso
   have:=eq_of_beq hc
   subst this
   rcases isN_cases hn with rfl | rfl | rfl | rfl | rfl <;> simp [kindS,sty,isN,styL,isLet,isDig] at h
set_option maxRecDepth 4000 in
set_option maxHeartbeats 2000000 in
theorem next47_eq (H:Has 47 E) (x:Int) (c:UInt8) (r:List UInt8) (hs:r.length < 900000):EvClosed E (.fn (.func 47) [] []) [.int .i64 x,.str (c :: r)] = some (got47 (nextS x (c :: r))):=by
 rw [EvClosed_eq H.c47 rfl (vs:=[.int .i64 x,.str (c :: r)]) (by simp),EvFn_eq]
 have hk:EvClosed E (.fn (.func 62) [] []) [.int .i64 x,.int .u8 c.toNat] = some (.int .i64 (kind x c)):=kind_eq (H.to 62) x c
 have hle1:=runL_le x 1 (c :: r)
 have hle2:=runL_le x 2 (c :: r)
 have hg1:=run_eq (H.to 63) x 1 (c :: r) (by simp; omega)
 have hg2:=run_eq (H.to 63) x 2 (c :: r) (by simp; omega)
 have hr:=raise_eq (H.to 64) x ((c :: r).take (runL x 1 (c :: r))) (by simp; omega)
 have hdg:=run_digits x (c :: r)
 have hpo:=fun q1 q2 q3 h=>parseInt_ok (H.to 65) ((c :: r).take (runL x 2 (c :: r))) hdg q1 q2 q3 h
 have hpb:=fun q1 q2 q3 h=>parseInt_bad (H.to 65) ((c :: r).take (runL x 2 (c :: r))) hdg q1 q2 q3 h
 have hof:=of_eq (H.to 44) x
 simp only [Sty.cs] at hof
 simp only [List.length_cons] at hle1 hle2
 have hne2:(kind x c == 2) = true→((c :: r).take (runL x 2 (c :: r))).isEmpty = false:=fun h=>by
  simp [runL,h]
 simp only [nextS]
 generalize runL x 1 (c :: r) = k1 at hle1 hg1 hr ⊢
 generalize runL x 2 (c :: r) = k2 at hle2 hg2 hdg hpo hpb hne2 ⊢
 cases h0:(kind x c == 0)
 ·cases h10:(kind x c == 10)
  ·cases h1:(kind x c == 1)
   ·cases h2:(kind x c == 2)
    ·cases h9:(kind x c == 9)
     ·simp [f47,start,EvCall_closed H.c62 rfl,hk,h0,h10,h1,h2,h9,(by omega:(1:Int) ≤ (r.length:Int) + 1),got47]
     ·have hk9:kind x c = 9:=by simpa using h9
      obtain ⟨hoc,hin⟩:=opn_cls h9
      rw [hk9] at hk
      have hib:=idxByte_find (sty x).cls (c :: r)
      have hfi:(c :: r).findIdx (· == (sty x).cls) = r.findIdx (· == (sty x).cls) + 1:=by rw [List.findIdx_cons]; simp only [hoc]; rfl
      rw [hfi] at hib
      have hle:r.findIdx (· == (sty x).cls) ≤ r.length:=List.findIdx_le_length
      have hpl:=fun q=>plain_eq (H.to 67) x (r.take (r.findIdx (· == (sty x).cls))) q
      simp only [noteS]
      generalize r.findIdx (· == (sty x).cls) = e at hib hle hpl ⊢
      have hp:=hpl (by simp; omega)
      have hix:=indexByte_eq (H.to 66) (c :: r) (sty x).cls
      rw [hib] at hix
      by_cases he:e < r.length
      ·rw [if_pos (by simp; omega)] at hix
       have c1:decide (((e + 1:Nat):Int) < 0) = false:=decide_eq_false (by omega)
       have w1:IntKind.i64.wrap (((e + 1:Nat):Int) + 1) = (e:Int) + 2:=by rw [w64]; omega
       have hle1:((e + 1:Nat):Int) ≤ (r.length:Int) + 1:=by omega
       have hle0:(1:Int) ≤ ((e + 1:Nat):Int):=by omega
       have hsl:((c :: r).take (e + 1)).drop 1 = r.take e:=by simp
       have hnn:(0:Int) ≤ ((e + 1:Nat):Int):=by omega
       have htn:((e + 1:Nat):Int).toNat = e + 1:=by omega
       generalize ((e + 1:Nat):Int) = z at hix c1 w1 hle1 hle0 hnn htn
       cases hq:plain x (r.take e)
       ·rw [hq] at hp
        simp [f47,start,EvCall_closed H.c62 rfl,hk,EvCall_closed H.c44 rfl,hof,EvCall_closed H.c66 rfl,EvCall_closed H.c67 rfl,hix,c1,hle1,hnn,htn,hp,he,(by omega:(1:Int) ≤ (e:Int) + 1),got47,push_setk]
       ·rw [hq] at hp
        simp [f47,start,EvCall_closed H.c62 rfl,hk,EvCall_closed H.c44 rfl,hof,EvCall_closed H.c66 rfl,EvCall_closed H.c67 rfl,hix,c1,w1,hle1,hnn,htn,hp,he,(by omega:(1:Int) ≤ (e:Int) + 1),got47,push_setk]
        omega
      ·rw [if_neg (by simp; omega)] at hix
       simp [f47,start,EvCall_closed H.c62 rfl,hk,EvCall_closed H.c44 rfl,hof,EvCall_closed H.c66 rfl,hix,he,got47,push_setk]
    ·have hk2:kind x c = 2:=by simpa using h2
     have hne:=hne2 h2
     rw [hk2] at hk h0 h10 h1 h2
     simp only [hk2]
     by_cases hv:dvalF 0 ((c :: r).take k2) < big
     ·have hp:=hpo hne (by simp; omega) hv
      simp [f47,start,EvCall_closed H.c62 rfl,hk,EvCall_closed H.c63 rfl,hg2,hp,(by omega:(k2:Int) ≤ (r.length:Int) + 1),numOf,hv,got47]
     ·obtain ⟨cs,hp⟩:=hpb hne (by simp; omega) hv (heap0.push (.cells [.int .i64 0,.int .i64 0,.str [],.int .i64 0]))
      simp [f47,start,EvCall_closed H.c62 rfl,hk,EvCall_closed H.c63 rfl,hg2,hp,(by omega:(k2:Int) ≤ (r.length:Int) + 1),numOf,hv,got47]
   ·have hk1:kind x c = 1:=by simpa using h1
    rw [hk1] at hk
    simp [f47,start,EvCall_closed H.c62 rfl,hk,EvCall_closed H.c63 rfl,EvCall_closed H.c64 rfl,hg1,hr,(by omega:(k1:Int) ≤ (r.length:Int) + 1),got47]
  ·have hk1:kind x c = 10:=by simpa using h10
   rw [hk1] at hk
   simp [f47,start,EvCall_closed H.c62 rfl,hk,got47]
 ·have hk1:kind x c = 0:=by simpa using h0
  rw [hk1] at hk
  simp [f47,start,EvCall_closed H.c62 rfl,hk,got47]
end Go.Pv
/- What opening a notation's book comes to, and what the reference's functions on symbols: begins, atom, find. Conditions: the functions' codes; theorems. -/
namespace Go.Pv
variable {E:Env} {B:Tb} {n:Nat}
theorem open_eq (H:Has 25 E) (ok:B.Ok) (h38:EvClosed E (.fn (.func 38) [] []) [] = some B.V) (x:Int):
  EvClosed E (.fn (.func 25) [] []) [.int .i64 x] = some (.tuple [.agg [B.A,B.P,.int .i64 x],.bool (decide (1 ≤ x) && decide (x ≤ 5))]):=by
 rw [EvClosed_eq H.c25 rfl (vs:=[.int .i64 x]) (by simp),EvFn_eq]
 simp only [Tb.V] at h38
 have h1:=Tb.A_shut ok
 have h2:=Tb.P_shut ok
 cases h3:decide (1 ≤ x) <;> simp [f25,start,EvCall_closed H.c38 rfl,h38,Tb.A_cell,Tb.P_cell,push_setk,h1,h2,h3]
theorem find13_eq (H:Has 13 E) (ok:B.Ok) (h38:EvClosed E (.fn (.func 38) [] []) [] = some B.V) (x:Int) (s:List UInt8):
  EvClosed E (.fn (.func 13) [] []) [.int .i64 x,.str s] = some (.tuple [.int .i64 (if 1 ≤ x∧x ≤ 5 then (findB (x - 1).toNat B.L B.Q s).1 else -1),.int .i64 (if 1 ≤ x∧x ≤ 5 then (findB (x - 1).toNat B.L B.Q s).2.1 else -1),.bool (decide (1 ≤ x∧x ≤ 5) && (findB (x - 1).toNat B.L B.Q s).2.2)]):=by
 rw [EvClosed_eq H.c13 rfl (vs:=[.int .i64 x,.str s]) (by simp),EvFn_eq]
 have ho:=open_eq (H.to 25) ok h38 x
 by_cases hx:1 ≤ x∧x ≤ 5
 ·obtain ⟨n,hn,rfl⟩:∃ n:Nat,n < 5∧x = (n:Int) + 1:=⟨(x - 1).toNat,by omega,by omega⟩
  have hf:=find_eq (E:=E) (H.to 26) ok hn s
  simp only [Tb.bookV] at hf
  have h1:decide (1 ≤ (n:Int) + 1) = true:=decide_eq_true (by omega)
  have h2:decide ((n:Int) + 1 ≤ 5) = true:=decide_eq_true (by omega)
  simp only [h1,h2] at ho
  have h3:(n:Int) + 1 - 1 = n:=by omega
  have h4:(n:Int) ≤ 4:=by omega
  simp [f13,start,EvCall_closed H.c25 rfl,EvCall_closed H.c26 rfl,ho,hf,hx,h3,Tb.A_cell,Tb.P_cell]
 ·have h1:(decide (1 ≤ x) && decide (x ≤ 5)) = false:=by
   cases h:(decide (1 ≤ x) && decide (x ≤ 5))
   ·rfl
   ·simp at h; exact absurd h hx
  rw [h1] at ho
  simp [f13,start,EvCall_closed H.c25 rfl,ho,hx,Tb.A_cell,Tb.P_cell]
end Go.Pv
/- What the reference's find comes to. Conditions: the functions' codes; theorems. -/
namespace Go.Pv
variable {E:Env} {B:Tb} {n:Nat}
end Go.Pv
/- What the text of a symbol comes to, and whether it is told. Conditions: the functions' codes; theorems. -/
namespace Go.Pv
variable {E:Env} {B:Tb} {n:Nat}
def textA (n:Nat) (L:List AtomR) (i:Nat):List UInt8:=((L[i]?).map (·.code n)).getD []
def textP (n:Nat) (L:List AtomR) (Q:List PrefR) (j i:Nat):List UInt8:=
 match L[i]?,Q[j]? with
 | some a,some p=>if (a.code n).isEmpty then [] else if (p.code n).isEmpty || !a.metric then [] else p.code n++a.code n
 | _,_=>[]
structure Tb.Short (B:Tb):Prop where
 a:∀ a ∈ B.L,∀ n,(a.code n).length ≤ 1000
 p:∀ a ∈ B.Q,∀ n,(a.code n).length ≤ 1000
def symText (n:Nat) (L:List AtomR) (Q:List PrefR) (p:Int) (a:Nat):List UInt8:=if p = -1 then textA n L a else textP n L Q p.toNat a
def toldB (n:Nat) (L:List AtomR) (Q:List PrefR) (s:List UInt8) (p a:Int):Bool:=!s.isEmpty && ((findB n L Q s).2.2 && ((findB n L Q s).1 == p && (findB n L Q s).2.1 == a))
end Go.Pv
/- What a function that ranges asks of the one that it calls; ranging over atoms. Conditions: the functions' codes; theorems. -/
namespace Go.Pv
variable {E:Env} {B:Tb} {n:Nat}
structure OwnH (n0:Nat) (h h':AHeap):Prop where
 old:∀ j,j < n0→h'.bl j = h.bl j
 len:h.blks.length ≤ h'.blks.length
 toks:h'.toks = h.toks
 ro:h'.ro = h.ro
 rot:h'.rot = h.rot
structure KeptH (n0:Nat) (h h':AHeap):Prop where
 mid:∀ j,n0 ≤ j→j < h.blks.length→h'.bl j = h.bl j
 len:h.blks.length ≤ h'.blks.length
 ro:h'.ro = h.ro
 rot:h'.rot = h.rot
theorem KeptH.refl (n0:Nat) (h:AHeap):KeptH n0 h h:=⟨fun _ _ _=>rfl,Nat.le_refl _,rfl,rfl⟩
theorem KeptH.trans {n0:Nat} {a b c:AHeap} (h:KeptH n0 a b) (k:KeptH n0 b c):KeptH n0 a c:=
 ⟨fun j h1 h2=>(k.mid j h1 (Nat.lt_of_lt_of_le h2 h.len)).trans (h.mid j h1 h2),Nat.le_trans h.len k.len,k.ro.trans h.ro,k.rot.trans h.rot⟩
theorem KeptH.push (n0:Nat) (h:AHeap) (b:ABlk):KeptH n0 h (h.push b):=by
 refine ⟨fun j _ hj=>?_,by simp,rfl,rfl⟩
 rw [bl_push,if_neg (by omega)]
theorem OwnH.refl (n0:Nat) (h:AHeap):OwnH n0 h h:=⟨fun _ _=>rfl,Nat.le_refl _,rfl,rfl,rfl⟩
theorem OwnH.trans {n0:Nat} {a b c:AHeap} (h:OwnH n0 a b) (k:OwnH n0 b c):OwnH n0 a c:=
 ⟨fun j h1=>(k.old j h1).trans (h.old j h1),Nat.le_trans h.len k.len,k.toks.trans h.toks,k.ro.trans h.ro,k.rot.trans h.rot⟩
theorem OwnH.push {n0:Nat} {h:AHeap} (hn:n0 ≤ h.blks.length) (b:ABlk):OwnH n0 h (h.push b):=by
 refine ⟨fun j hj=>?_,by simp,rfl,rfl,rfl⟩
 rw [bl_push,if_neg (by omega)]
theorem OwnH.set {n0:Nat} {h:AHeap} {l:Nat} (hn:n0 ≤ l) (b:ABlk):OwnH n0 h (h.setBlk l b):=by
 refine ⟨fun j hj=>?_,by simp,rfl,rfl,rfl⟩
 rw [bl_set,if_neg (by omega)]
structure YieldsL (E:Env) (Y:AV) (n0:Nat) {β:Type} (args:β→List AV) (Good:List β→AHeap→Prop):Prop where
 len:∀ l h,Good l h→n0 ≤ h.blks.length
 ro:∀ l h,Good l h→h.ro ≤ n0
 call:∀ x l h,Good (x :: l) h→∃ h',EvCall E Y (args x) h = some (.ret (.bool true),h')∧Good l h'∧KeptH n0 h h'
 keep:∀ l h h',Good l h→OwnH n0 h h'→Good l h'
end Go.Pv
