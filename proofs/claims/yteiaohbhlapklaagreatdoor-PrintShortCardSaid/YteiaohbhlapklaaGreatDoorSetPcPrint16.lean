/- A part of the proof: functions of the program in the evaluator's code, and what they come to. Conditions: none; definitions and theorems that the statement's proof uses. -/
import Derived.Test.YteiaohbhlapklaaGreatDoorSetPcPrint15
/- PrintShort is true. Conditions: the functions' codes; theorems. -/
namespace Go.Pv
variable {E:Env} {x:Int}
theorem short238_eq (H:Has 238 E) (s:List UInt8) (n:Nat) (_hn:n < 1000000):EvClosed E (.fn (.func 238) [] []) [.str s,.int .i64 n] = some (.str (s.take n)):=by
 rw [EvClosed_eq H.c238 rfl (vs:=[.str s,.int .i64 n]) (by simp),EvFn_eq]
 by_cases h:n < s.length
 ·have d:decide ((n:Int) < (s.length:Int)) = true:=decide_eq_true (by omega)
  have d2:(n:Int) ≤ (s.length:Int):=by omega
  have d3:n ≤ s.length:=by omega
  simp [f238,start,d2,h]
 ·have d:decide ((n:Int) < (s.length:Int)) = false:=decide_eq_false (by omega)
  rw [List.take_of_length_le (by omega)]
  simp [f238,start,h]
set_option maxHeartbeats 2000000 in
set_option maxRecDepth 20000 in
theorem shorter237_eq (H:Has 237 E) (hn:isN x = true) (s:List UInt8) (hs:s.length < 900000):EvClosed E (.fn (.func 237) [] []) [.int .i64 x,.str s] = some (.bool true):=by
 rw [EvClosed_eq H.c237 rfl (vs:=[.int .i64 x,.str s]) (by simp),EvFn_eq]
 have pe:=parse_eq (H.to 20) x s hs
 by_cases he:(parseP x s).err = 0
 ·obtain ⟨tr,h1,h2,h3,h4,h5,h6,h7,h8,hlen⟩:=parse_short hn he
  have hp:=print235_eq (H.to 235) hn h2 h3 hlen (stepsV_tree _)
  have hpd:=printD_told h2 h4 h5 (by omega)
  have p2:=parse_eq (H.to 20) x (ptext x tr) (by omega)
  rw [parse_print hn h2 h3 h4 h5 (by omega)] at p2
  have l1:=lefts239_eq (H.to 239) x s hs
  have l2:=lefts239_eq (H.to 239) x (ptext x tr) (by omega)
  obtain ⟨ts,hts,hlx⟩:=lex_print hn h2 h3 h4
  rw [hlx,left_tree _ _ hts] at l2
  have ct:=stepsV_cell tr.steps
  cases hq:parseP x s with | mk tree err pos len=>
  rw [hq] at pe h1 he
  simp only at h1 he
  subst h1 he
  rw [hpd] at hp
  simp only [prtT] at hp
  simp only [Psd.cs] at pe p2
  generalize stepsV tr.steps = tv at *
  generalize ptext x tr = u at *
  generalize leftC (lexS x s).1 = c1 at *
  generalize tr.brks = c2 at *
  have d1:¬ s.length < u.length:=by omega
  have d2:¬ c1 < c2:=by omega
  simp [f237,start,EvCall_closed H.c20 rfl,EvCall_closed H.c235 rfl,EvCall_closed H.c239 rfl,pe,p2,hp,l1,l2,ct,d1,d2,push_setk]
 ·have ct:=stepsV_cell (parseP x s).tree
  have he':((parseP x s).err != 0) = true:=by simpa using he
  simp only [Psd.cs] at pe
  generalize stepsV (parseP x s).tree = tv at *
  generalize (parseP x s).err = e at *
  simp [f237,start,EvCall_closed H.c20 rfl,pe,ct,he',push_setk]
set_option maxHeartbeats 1000000 in
set_option maxRecDepth 20000 in
theorem printShort_eq (H:Has 221 E) (n:Int) (s:List UInt8) {v:AV} {L:List Int} (hv:IntsV v L):EvClosed E (.fn (.func 221) [] []) [.int .i64 n,.str s,v] = some (.bool true):=by
 obtain ⟨v',sv,hv'⟩:=ints_shut hv
 rw [EvClosed_eq H.c221 rfl (vs:=[.int .i64 n,.str s,v']) (by simp [sv]),EvFn_eq]
 have hk:1 ≤ 1 + n % 5∧1 + n % 5 ≤ 5:=by omega
 have hw:IntKind.i64.wrap (1 + n % 5) = 1 + n % 5:=w64
 have hr:=rest232_eq (H.to 232) (x:=n) (m:=5) (by omega) (by omega)
 generalize n % 5 = r at *
 have hkk:∃ k,k = 1 + r:=⟨_,rfl⟩
 obtain ⟨k,hkk⟩:=hkk
 rw [← hkk] at hk hw
 have hn:isN k = true:=by simp [isN,hk]
 have haw:=awake231_eq (H.to 231)
 have hm:=made_eq (H.to 163) hv'
 obtain ⟨k1,k2,k3⟩:=madeT_ok L
 have hp:=ref236_eq (H.to 236) hn k1 k2 k3 (stepsV_tree _)
 have ct:=stepsV_cell (madeT L).steps
 have h1:EvClosed E (.fn (.func 238) [] []) [.str s,.int .i64 255] = some (.str (s.take 255)):=short238_eq (H.to 238) s 255 (by omega)
 have h2:=shorter237_eq (H.to 237) hn (s.take 255) (by simp; omega)
 have hl:(printD k (madeT L)).1.length ≤ 255:=by
  rcases printD_two hn L with ⟨i,e,h0,_⟩ | ⟨h0,P⟩
  ·rw [h0]; simp
  ·rw [h0]; exact P.len
 have h3:=shorter237_eq (H.to 237) hn (40 :: ((printD k (madeT L)).1++[41])) (by simp; omega)
 simp only [prtV] at hp
 generalize stepsV (madeT L).steps = tv at *
 generalize (printD k (madeT L)).1 = t at *
 generalize (printD k (madeT L)).2.1 = t1 at *
 generalize (printD k (madeT L)).2.2 = t2 at *
 have l0:1 + t.length ≤ 9223372036854775807:=by omega
 have l1:t.length + 1 ≤ 9223372036854775807:=by omega
 have l2:t.length + 1 + 1 ≤ 9223372036854775807:=by omega
 rw [hkk] at hw hp h2 h3
 simp [f221,start,EvCall_closed H.c231 rfl,EvCall_closed H.c232 rfl,EvCall_closed H.c163 rfl,EvCall_closed H.c236 rfl,EvCall_closed H.c237 rfl,EvCall_closed H.c238 rfl,haw,hr,hw,hm,hp,h1,h2,h3,l0,l2]
end Go.Pv
