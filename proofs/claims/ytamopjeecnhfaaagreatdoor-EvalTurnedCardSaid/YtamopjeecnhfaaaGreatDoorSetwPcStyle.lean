/- A part of the proof: functions of the program in the evaluator's code, and what they come to. Conditions: none; definitions and theorems that the statement's proof uses. -/
import Derived.Test.YtamopjeecnhfaaaGreatDoorSetwPcLib
import Derived.KernelRfl
/- What the functions of the package style come to, and the reference's. Conditions: the functions' codes; theorems. -/
namespace Go.Pv
variable {E:Env}
structure Sty where
 fold:Bool
 mul:UInt8
 div:UInt8
 pow:UInt8
 opn:UInt8
 cls:UInt8
 deriving DecidableEq
def sty0:Sty:=⟨false,0,0,0,0,0⟩
def styL:List Sty:=[⟨false,46,47,0,123,125⟩,⟨true,46,47,0,123,125⟩,⟨false,42,47,94,60,62⟩,⟨true,46,47,0,0,0⟩,⟨false,46,47,94,0,0⟩]
def isN (x:Int):Bool:=decide (1 ≤ x) && decide (x ≤ 5)
def sty (x:Int):Sty:=if isN x then styL.getD (x - 1).toNat sty0 else sty0
abbrev b8 (c:UInt8):AV:=.int .u8 (c.toNat:Int)
def Sty.cs (s:Sty):List AV:=[.bool s.fold,b8 s.mul,b8 s.div,b8 s.pow,b8 s.opn,b8 s.cls]
theorem isN_cases {x:Int} (h:isN x = true):x = 1∨x = 2∨x = 3∨x = 4∨x = 5:=by
 simp only [isN,Bool.and_eq_true,decide_eq_true_eq] at h
 omega
theorem of_eq (H:Has 44 E) (x:Int):EvClosed E (.fn (.func 44) [] []) [.int .i64 x] = some (.tuple [.agg (sty x).cs,.bool (isN x)]):=by
 rw [EvClosed_eq H.c44 rfl (vs:=[.int .i64 x]) (by simp),EvFn_eq]
 have hg:=H.v1
 simp only [globAll,g1] at hg
 cases hx:isN x
 ·by_cases h1:x < 1
  ·simp [f44,start,h1,sty,hx,Sty.cs,sty0]
  ·have h2:5 < x:=by simp [isN] at hx; omega
   simp [f44,start,h1,h2,sty,hx,Sty.cs,sty0]
 ·rcases isN_cases hx with rfl | rfl | rfl | rfl | rfl <;> simp [f44,start,hg,sty,hx,Sty.cs,styL,w64]
def isLet (m:Nat):Bool:=(decide (97 ≤ m) && decide (m ≤ 122)) || (decide (65 ≤ m) && decide (m ≤ 90)) || m == 37 || m == 39 || m == 95 || m == 91 || m == 93
def isDig (m:Nat):Bool:=decide (48 ≤ m) && decide (m ≤ 57)
def kindS (s:Sty) (m:Nat):Int:=
 if m == 0 then 0 else if isLet m then 1 else if isDig m then 2 else if m == 43 || m == 45 then 3 else if m == 40 then 7 else if m == 41 then 8 else
 if m == s.mul.toNat then 4 else if m == s.div.toNat then 5 else if m == s.pow.toNat then 6 else if m == s.opn.toNat then 9 else if m == s.cls.toNat then 10 else 0
def kind (x:Int) (c:UInt8):Int:=if isN x then kindS (sty x) c.toNat else 0
theorem idx_marks_all:((List.range 256).all fun (m:Nat)=>decide (0 ≤ idxByte [37,39,95,91,93] (m:Int)) == (m == 37 || m == 39 || m == 95 || m == 91 || m == 93)) = true:=by kernel_rfl
theorem idx_marks (c:UInt8):decide (0 ≤ idxByte [37,39,95,91,93] (c.toNat:Int)) = (c.toNat == 37 || c.toNat == 39 || c.toNat == 95 || c.toNat == 91 || c.toNat == 93):=by
 have:=List.all_eq_true.1 idx_marks_all c.toNat (by simp; exact c.toNat_lt)
 simpa using this
theorem kindS_int (s:Sty) (m:Nat):kindS s m = if (m:Int) == 0 then 0 else if (decide ((97:Int) ≤ m) && decide ((m:Int) ≤ 122)) || (decide ((65:Int) ≤ m) && decide ((m:Int) ≤ 90)) || (m == 37 || m == 39 || m == 95 || m == 91 || m == 93) then 1 else if decide ((48:Int) ≤ m) && decide ((m:Int) ≤ 57) then 2 else
     if (m:Int) == 43 then 3 else if (m:Int) == 45 then 3 else if (m:Int) == 40 then 7 else if (m:Int) == 41 then 8 else if (m:Int) == s.mul.toNat then 4 else if (m:Int) == s.div.toNat then 5 else if (m:Int) == s.pow.toNat then 6 else
     if (m:Int) == s.opn.toNat then 9 else if (m:Int) == s.cls.toNat then 10 else 0:=by
 have e:∀ k:Nat,((m:Int) == (k:Int)) = (m == k):=fun k=>by
  rw [Bool.eq_iff_iff]
  simp only [beq_iff_eq]
  omega
 have l:∀ k:Nat,decide ((k:Int) ≤ (m:Int)) = decide (k ≤ m):=fun k=>decide_eq_decide.2 (by omega)
 have g:∀ k:Nat,decide ((m:Int) ≤ (k:Int)) = decide (m ≤ k):=fun k=>decide_eq_decide.2 (by omega)
 have e0:((m:Int) == 0) = (m == 0):=e 0
 have e43:((m:Int) == 43) = (m == 43):=e 43
 have e45:((m:Int) == 45) = (m == 45):=e 45
 have e40:((m:Int) == 40) = (m == 40):=e 40
 have e41:((m:Int) == 41) = (m == 41):=e 41
 have l97:decide ((97:Int) ≤ (m:Int)) = decide (97 ≤ m):=l 97
 have l65:decide ((65:Int) ≤ (m:Int)) = decide (65 ≤ m):=l 65
 have l48:decide ((48:Int) ≤ (m:Int)) = decide (48 ≤ m):=l 48
 have g122:decide ((m:Int) ≤ 122) = decide (m ≤ 122):=g 122
 have g90:decide ((m:Int) ≤ 90) = decide (m ≤ 90):=g 90
 have g57:decide ((m:Int) ≤ 57) = decide (m ≤ 57):=g 57
 simp only [kindS,isLet,isDig,e0,e43,e45,e40,e41,l97,l65,l48,g122,g90,g57,e,Bool.or_assoc]
 cases h43:(m == 43) <;> simp
set_option maxHeartbeats 4000000 in
theorem kind_eq (H:Has 62 E) (x:Int) (c:UInt8):EvClosed E (.fn (.func 62) [] []) [.int .i64 x,b8 c] = some (.int .i64 (kind x c)):=by
 rw [EvClosed_eq H.c62 rfl (vs:=[.int .i64 x,b8 c]) (by simp),EvFn_eq]
 have ho:=of_eq (H.to 44) x
 simp only [Sty.cs] at ho
 cases hx:isN x
 ·rw [hx] at ho
  simp [f62,start,EvCall_closed H.c44 rfl,ho,kind,hx]
 ·rw [hx] at ho
  have hib:EvClosed E (.fn (.func 66) [] []) [.str [37,39,95,91,93],b8 c] = some (.int .i64 (idxByte [37,39,95,91,93] c.toNat)):=by
   rw [EvClosed_eq H.c66 rfl (vs:=[.str [37,39,95,91,93],b8 c]) (by simp),EvFn_eq]
   simp [f66,start,EvCall_ext H.x81,EvClosed_ext H.x81,extIB,(by have:=c.toNat_lt; omega:(c.toNat:Int) ≤ 255)]
  simp only [kind,hx,if_true,kindS_int]
  rw [← idx_marks c]
  have main:∀ (a1 a2 b1 b2 d1 d2 mk:Bool),decide ((97:Int) ≤ c.toNat) = a1→decide ((c.toNat:Int) ≤ 122) = a2→decide ((65:Int) ≤ c.toNat) = b1→decide ((c.toNat:Int) ≤ 90) = b2→decide ((48:Int) ≤ c.toNat) = d1→decide ((c.toNat:Int) ≤ 57) = d2 →
    decide (0 ≤ idxByte [37,39,95,91,93] c.toNat) = mk→((c.toNat:Int) == 0) = false →
    closedEnd (endFn f62 (EvDef E) (EvCode E f62.body (start f62 [.int .i64 x,b8 c]) heap0)) = some (.int .i64 (if (a1 && a2) || (b1 && b2) || mk then 1 else if d1 && d2 then 2 else
     if (c.toNat:Int) == 43 then 3 else if (c.toNat:Int) == 45 then 3 else if (c.toNat:Int) == 40 then 7 else if (c.toNat:Int) == 41 then 8 else if (c.toNat:Int) == (sty x).mul.toNat then 4 else if (c.toNat:Int) == (sty x).div.toNat then 5 else if (c.toNat:Int) == (sty x).pow.toNat then 6 else
     if (c.toNat:Int) == (sty x).opn.toNat then 9 else if (c.toNat:Int) == (sty x).cls.toNat then 10 else 0)):=by
   intro a1 a2 b1 b2 d1 d2 mk h1 h2 h3 h4 h5 h6 h7 h8
   by_cases hL:((a1 && a2) || (b1 && b2) || mk) = true
   ·rw [if_pos hL]
    cases a1 <;> cases b1 <;> cases a2 <;> cases b2 <;> cases mk <;> simp at hL <;> simp [f62,start,EvCall_closed H.c44 rfl,EvCall_closed H.c66 rfl,ho,hib,h1,h2,h3,h4,h7,h8]
   ·rw [if_neg hL]
    simp only [Bool.or_eq_true,Bool.and_eq_true,not_or,not_and,Bool.not_eq_true] at hL
    obtain ⟨⟨k1,k2⟩,k3⟩:=hL
    subst k3
    by_cases hD:(d1 && d2) = true
    ·rw [if_pos hD]
     simp only [Bool.and_eq_true] at hD
     obtain ⟨rfl,rfl⟩:=hD
     have q:(c.toNat:Int) ≤ 57:=of_decide_eq_true h6
     have e1:a1 = false:=by rw [← h1]; exact decide_eq_false (by omega)
     have e2:b1 = false:=by rw [← h3]; exact decide_eq_false (by omega)
     subst e1
     subst e2
     simp [f62,start,EvCall_closed H.c44 rfl,EvCall_closed H.c66 rfl,ho,hib,h1,h3,h5,h6,h7,h8]
    ·rw [if_neg hD]
     have hr:(c.toNat < 48∧d1 = false∧a1 = false∧b1 = false)∨(d1 = true∧d2 = false∧a1 = false∧b1 = false)∨(d1 = true∧d2 = false∧a1 = false∧b1 = true∧b2 = false)∨(d1 = true∧d2 = false∧a1 = true∧a2 = false∧b1 = true∧b2 = false):=by
      cases a1 <;> cases a2 <;> cases b1 <;> cases b2 <;> cases d1 <;> cases d2 <;> simp at h1 h2 h3 h4 h5 h6 k1 k2 hD ⊢ <;> omega
     rcases hr with ⟨_,rfl,rfl,rfl⟩ | ⟨rfl,rfl,rfl,rfl⟩ | ⟨rfl,rfl,rfl,rfl,rfl⟩ | ⟨rfl,rfl,rfl,rfl,rfl,rfl⟩
     ·cases e1:((c.toNat:Int) == 43) <;> cases e2:((c.toNat:Int) == 45) <;> simp [f62,start,EvCall_closed H.c44 rfl,EvCall_closed H.c66 rfl,ho,hib,e1,e2,h1,h3,h5,h7,h8] <;> (repeat' split) <;> rfl
     ·cases e1:((c.toNat:Int) == 43) <;> cases e2:((c.toNat:Int) == 45) <;> simp [f62,start,EvCall_closed H.c44 rfl,EvCall_closed H.c66 rfl,ho,hib,e1,e2,h1,h3,h5,h6,h7,h8] <;> (repeat' split) <;> rfl
     ·cases e1:((c.toNat:Int) == 43) <;> cases e2:((c.toNat:Int) == 45) <;> simp [f62,start,EvCall_closed H.c44 rfl,EvCall_closed H.c66 rfl,ho,hib,e1,e2,h1,h3,h4,h5,h6,h7,h8] <;> (repeat' split) <;> rfl
     ·cases e1:((c.toNat:Int) == 43) <;> cases e2:((c.toNat:Int) == 45) <;> simp [f62,start,EvCall_closed H.c44 rfl,EvCall_closed H.c66 rfl,ho,hib,e1,e2,h1,h2,h3,h4,h5,h6,h7,h8] <;> (repeat' split) <;> rfl
  by_cases h0:((c.toNat:Int) == 0) = true
  ·rw [if_pos h0]
   simp [f62,start,EvCall_closed H.c44 rfl,ho,h0]
  ·rw [if_neg h0]
   exact main _ _ _ _ _ _ _ rfl rfl rfl rfl rfl rfl rfl (by simpa using h0)
end Go.Pv
/- What the reference's functions of chapter 7 come to: of, kind. Conditions: the functions' codes; theorems. -/
namespace Go.Pv
variable {E:Env}
end Go.Pv
/- Raising letters, and whether a text may be a note's: what the functions come to. Conditions: the functions' codes; theorems. -/
namespace Go.Pv
variable {E:Env}
theorem bytesOf_b8:∀ (s:List UInt8),bytesOf (s.map b8) = some s
 | []=>rfl
 | c :: s=>by
  simp only [List.map_cons,b8,bytesOf]
  rw [bytesOf_b8 s]
  simp
theorem pre_at (pre:List UInt8) (c:UInt8) (rest:List UInt8):((pre.map b8++b8 c :: rest.map b8).drop pre.length).take 1 = [b8 c]:=by
 rw [List.drop_left' (by simp)]
 rfl
theorem pre_set (pre:List UInt8) (c d:UInt8) (rest:List UInt8):setCells pre.length [b8 d] (pre.map b8++b8 c :: rest.map b8) = (pre++[d]).map b8++rest.map b8:=by
 simp only [setCells]
 rw [List.set_append_right _ _ (by simp)]
 simp
theorem mapped_loop {g:UInt8→UInt8} {f:AV} {h:AHeap} (hf:∀ c hh,(∀ k,k < h.blks.length→hh.bl k = h.bl k)→EvCall E f [b8 c] hh = some (.ret (b8 (g c)),hh)):∀ (rest pre:List UInt8),pre.length + rest.length < 9223372036854775807→∀ F,
  mask k77_0 F = s77_0 f (.rs h.blks.length 0 (pre.length + rest.length)) (.rs h.blks.length 0 (pre.length + rest.length)) (.int .i64 (pre.length + rest.length:Nat)) (.int .i64 pre.length) →
  EvCode E (.loop k77_0 l77_0) F (h.still.push (.cells (pre.map b8++rest.map b8))) = some (.exit 0,x77_0 (.rs h.blks.length 0 (pre.length + rest.length)),h.still.push (.cells ((pre++rest.map g).map b8)))
 | [],pre,hlen,F,hF=>by
  rw [EvCode_loop,hF]
  simp [l77_0,s77_0,x77_0]
 | c :: rest,pre,hlen,F,hF=>by
  have ih:=mapped_loop hf rest (pre++[g c]) (by simp at hlen ⊢; omega)
  have hc:=hf c (h.still.push (.cells (pre.map b8++b8 c :: rest.map b8))) (fun k hk=>by rw [bl_push,if_neg (by simp; omega)]; rfl)
  rw [EvCode_loop,hF]
  generalize EvCode E (.loop k77_0 l77_0) = lp at ih ⊢
  simp only [List.length_cons] at hlen
  simp only [List.map_cons]
  have hset:=push_setk (h:=h.still) (x:=.cells (pre.map b8++b8 c :: rest.map b8)) (y:=.cells (setCells pre.length [b8 (g c)] (pre.map b8++b8 c :: rest.map b8))) (k:=h.blks.length) rfl
  rw [pre_set] at hset
  have hlt:(pre.length:Int) < (pre.length:Int) + ((rest.length:Int) + 1):=by omega
  have hps:=pre_set pre c (g c) rest
  have hpa:=pre_at pre c rest
  have hle:pre.length ≤ pre.length + rest.length:=by omega
  simp only [b8,setCells] at hps hpa hset hc
  simp [l77_0,s77_0,hlt,hc,hps,push_setk,w64 (n:=(pre.length:Int) + 1)]
  rw [show pre.length + (rest.length + 1) = (pre++[g c]).length + rest.length by simp; omega]
  have:=ih
  simp only [b8,List.map_append,List.map_cons,List.map_nil,List.append_assoc,List.cons_append,List.nil_append] at this ⊢
  rw [this _ (by simp [s77_0]; omega)]
  simp
theorem mapped_eq (H:Has 77 E) {g:UInt8→UInt8} {f:AV} {h:AHeap} (s:List UInt8) (hs:s.length < 1000000) (hf:∀ c hh,(∀ k,k < h.blks.length→hh.bl k = h.bl k)→EvCall E f [b8 c] hh = some (.ret (b8 (g c)),hh)):
  EvCall E (.fn (.func 77) [] []) [.str s,f] h = some (.ret (.str (s.map g)),h):=by
 rw [EvCall_reader H.c77 rfl,EvFn_eq]
 have hl:=mapped_loop hf s [] (by simp; omega)
 have hb:=bytesOf_b8 (s.map g)
 simp only [List.map_nil,List.nil_append,List.length_nil,Nat.zero_add,Int.natCast_zero] at hl hb
 simp [f77,start,(by omega:s.length ≤ 140737488355328)]
 rw [hl _ (by simp [s77_0])]
 simp at hb
 simp [x77_0,take_map_len,hb]
def raise1 (fold:Bool) (c:UInt8):UInt8:=if fold && decide (97 ≤ c.toNat) && decide (c.toNat ≤ 122) then UInt8.ofNat (c.toNat - 32) else c
def raise (x:Int) (s:List UInt8):List UInt8:=s.map (raise1 (sty x).fold)
theorem raise1_toNat {c:UInt8} (h1:97 ≤ c.toNat):((UInt8.ofNat (c.toNat - 32)).toNat:Int) = c.toNat - 32:=by
 have:=c.toNat_lt
 rw [UInt8.toNat_ofNat']
 omega
theorem raiseC_eq (H:Has 78 E) {h:AHeap} {b:Nat} {st:Sty} (hb:h.bl b = some (.cells st.cs)) (c:UInt8):EvCall E (.fn (.func 78) [] [.ref b 0]) [b8 c] h = some (.ret (b8 (raise1 st.fold c)),h):=by
 rw [EvCall_reader H.c78 rfl,EvFn_eq]
 simp only [Sty.cs] at hb
 have hc:=c.toNat_lt
 cases hf:st.fold
 ·simp [f78,start,hb,hf,raise1]
 ·by_cases h1:97 ≤ c.toNat
  ·by_cases h2:c.toNat ≤ 122
   ·have w1:IntKind.u8.wrap ((c.toNat:Int) - 97) = (c.toNat:Int) - 97:=by rw [IntKind.wrap_u8]; omega
    have w2:IntKind.u8.wrap ((c.toNat:Int) - 97 + 65) = (c.toNat:Int) - 32:=by rw [IntKind.wrap_u8]; omega
    have h3:=raise1_toNat h1
    simp [f78,start,hb,hf,raise1,decide_eq_true (p:=(97:Int) ≤ c.toNat) (by omega),decide_eq_true (p:=(c.toNat:Int) ≤ 122) (by omega),w1,w2,h1,h2]
    omega
   ·simp [f78,start,hb,hf,raise1,decide_eq_true (p:=(97:Int) ≤ c.toNat) (by omega),decide_eq_false (p:=(c.toNat:Int) ≤ 122) (by omega),h2]
  ·simp [f78,start,hb,hf,raise1,decide_eq_false (p:=(97:Int) ≤ c.toNat) (by omega),h1]
theorem raise_eq (H:Has 64 E) (x:Int) (s:List UInt8) (hs:s.length < 1000000):EvClosed E (.fn (.func 64) [] []) [.int .i64 x,.str s] = some (.str (raise x s)):=by
 rw [EvClosed_eq H.c64 rfl (vs:=[.int .i64 x,.str s]) (by simp),EvFn_eq]
 have ho:=of_eq (H.to 44) x
 have hm:=mapped_eq (H.to 77) (g:=raise1 (sty x).fold) (f:=.fn (.func 78) [] [.ref 0 0]) (h:=heap0.push (.cells (sty x).cs)) s hs (fun c hh hk=>raiseC_eq (H.to 78) (by rw [hk 0 (by simp)]; simp) c)
 simp only [Sty.cs] at ho hm
 simp [f64,start,EvCall_closed H.c44 rfl,ho,push_setk,hm,raise]
end Go.Pv
/- Raising letters, and plain texts: the reference's functions, and the program's plain. Conditions: the functions' codes; theorems. -/
namespace Go.Pv
variable {E:Env}
def badB (st:Sty) (c:UInt8):Bool:=decide (c.toNat < 32) || decide (126 < c.toNat) || c == st.opn || c == st.cls
def plainS (st:Sty) (s:List UInt8):Bool:=!s.any (badB st) && st.opn != 0
def plain (x:Int) (s:List UInt8):Bool:=plainS (sty x) s
theorem u8i (a b:UInt8):((a.toNat:Int) == (b.toNat:Int)) = (a == b):=by
 rw [Bool.eq_iff_iff]
 simp only [beq_iff_eq]
 constructor
 ·intro h; exact UInt8.toNat.inj (by omega)
 ·intro h; rw [h]
theorem opn_ne (st:Sty):((st.opn.toNat:Int) != 0) = (st.opn != 0):=by
 have:=u8i st.opn 0
 simp only [bne]
 exact congrArg _ this
theorem plain_loop {st:Sty} {h:AHeap} (hb:h.bl 0 = some (.cells st.cs)) {b:Nat} (hb2:∃ cs:List UInt8,h.bl b = some (.cells (cs.map b8))):∀ (rest pre:List UInt8),h.bl b = some (.cells ((pre++rest).map b8))→pre.length + rest.length < 1000000→∀ F,mask k67_0 F = s67_0 (.ref 0 0) (.rs b 0 (pre.length + rest.length)) (.int .i64 (pre.length + rest.length:Nat)) (.int .i64 pre.length) →
  EvCode E (.loop k67_0 l67_0) F h = some (if rest.any (badB st) then (.ret,r67 (.bool false),h) else (.exit 0,x67_0 (.ref 0 0),h))
 | [],pre,hbb,hlen,F,hF=>by
  rw [EvCode_loop,hF]
  simp [l67_0,s67_0,x67_0]
 | c :: rest,pre,hbb,hlen,F,hF=>by
  have ih:=plain_loop hb hb2 rest (pre++[c]) (by simpa using hbb) (by simp at hlen ⊢; omega)
  rw [EvCode_loop,hF]
  generalize EvCode E (.loop k67_0 l67_0) = lp at ih ⊢
  simp only [List.length_cons] at hlen
  simp only [Sty.cs] at hb
  have hat:=pre_at pre c rest
  simp only [List.map_append,List.map_cons] at hbb
  have hlt:(pre.length:Int) < (pre.length:Int) + ((rest.length:Int) + 1):=by omega
  by_cases h1:c.toNat < 32
  ·simp [l67_0,s67_0,hlt,hbb,decide_eq_true (p:=(c.toNat:Int) < 32) (by omega),r67,badB,h1]
  ·by_cases h2:126 < c.toNat
   ·simp [l67_0,s67_0,hlt,hbb,decide_eq_false (p:=(c.toNat:Int) < 32) (by omega),decide_eq_true (p:=(126:Int) < c.toNat) (by omega),r67,badB,h2]
   ·cases h3:(c == st.opn)
    ·cases h4:(c == st.cls)
     ·simp [l67_0,s67_0,hlt,hbb,hb,decide_eq_false (p:=(c.toNat:Int) < 32) (by omega),decide_eq_false (p:=(126:Int) < c.toNat) (by omega),u8i,h3,h4,w64 (n:=(pre.length:Int) + 1)]
      rw [ih _ (by simp [s67_0]; omega)]
      simp [badB,h1,h2,h3,h4]
     ·simp [l67_0,s67_0,hlt,hbb,hb,decide_eq_false (p:=(c.toNat:Int) < 32) (by omega),decide_eq_false (p:=(126:Int) < c.toNat) (by omega),u8i,h3,h4,r67,badB]
    ·simp [l67_0,s67_0,hlt,hbb,hb,decide_eq_false (p:=(c.toNat:Int) < 32) (by omega),decide_eq_false (p:=(126:Int) < c.toNat) (by omega),u8i,h3,r67,badB]
theorem plain_eq (H:Has 67 E) (x:Int) (s:List UInt8) (hs:s.length < 1000000):EvClosed E (.fn (.func 67) [] []) [.int .i64 x,.str s] = some (.bool (plain x s)):=by
 rw [EvClosed_eq H.c67 rfl (vs:=[.int .i64 x,.str s]) (by simp),EvFn_eq]
 have ho:=of_eq (H.to 44) x
 have hl:=fun h hb b hb2 hbb=>plain_loop (E:=E) (st:=sty x) (h:=h) hb (b:=b) hb2 s [] hbb (by simp; omega)
 have hop:=opn_ne (sty x)
 simp only [Sty.cs] at ho hl
 simp only [List.nil_append,List.length_nil,Nat.zero_add] at hl
 simp [f67,start,EvCall_closed H.c44 rfl,ho,push_setk,(by omega:s.length ≤ 140737488355328)]
 rw [hl _ (by simp) 1 ⟨s,by simp⟩ (by simp) _ (by simp [s67_0])]
 cases ha:s.any (badB (sty x))
 ·simp [x67_0,plain,plainS,ha,hop]
 ·simp [r67,plain,plainS,ha]
end Go.Pv
/- Rows of bytes of one kind, numbers, notes: what the functions come to. Conditions: the functions' codes; theorems. -/
namespace Go.Pv
variable {E:Env}
def runL (x k:Int):List UInt8→Nat
 | []=>0
 | c :: s=>if kind x c == k then runL x k s + 1 else 0
theorem runL_le (x k:Int):∀ s,runL x k s ≤ s.length
 | []=>Nat.le_refl _
 | c :: s=>by
  simp only [runL]
  have:=runL_le x k s
  split <;> simp <;> omega
theorem run1_eq (H:Has 76 E) {h:AHeap} {x k:Int} {a b:Nat} (ha:h.bl a = some (.cells [.int .i64 x])) (hb:h.bl b = some (.cells [.int .i64 k])) (c:UInt8):
  EvCall E (.fn (.func 76) [] [.ref a 0,.ref b 0]) [b8 c] h = some (.ret (.bool (kind x c != k)),h):=by
 rw [EvCall_reader H.c76 rfl,EvFn_eq]
 simp [f76,start,ha,hb,kind_eq (H.to 62)]
theorem run_loop (H:Has 63 E) {x k:Int} {h:AHeap} (h0:h.bl 0 = some (.cells [.int .i64 x])) (h1:h.bl 1 = some (.cells [.int .i64 k])):∀ (rest pre:List UInt8),pre.length + rest.length < 1000000→∀ F,mask k63_0 F = s63_0 (.str (pre++rest)) (.fn (.func 76) [] [.ref 0 0,.ref 1 0]) (.int .i64 pre.length) →
  EvCode E (.loop k63_0 l63_0) F h = some (.exit 0,x63_0 (.int .i64 (pre.length + runL x k rest:Nat)),h)
 | [],pre,hlen,F,hF=>by
  rw [EvCode_loop,hF]
  simp [l63_0,s63_0,x63_0,runL]
 | c :: rest,pre,hlen,F,hF=>by
  have ih:=run_loop H h0 h1 rest (pre++[c]) (by simp at hlen ⊢; omega)
  rw [EvCode_loop,hF]
  generalize EvCode E (.loop k63_0 l63_0) = lp at ih ⊢
  simp only [List.length_cons] at hlen
  have hr:=run1_eq (H.to 76) h0 h1 c
  have hlt:(pre.length:Int) < (pre.length:Int) + ((rest.length:Int) + 1):=by omega
  cases hk:(kind x c == k)
  ·have hk':(kind x c != k) = true:=by simp [bne,hk]
   rw [hk'] at hr
   simp [l63_0,s63_0,hlt,hr,x63_0,runL,hk]
  ·have hk':(kind x c != k) = false:=by simp [bne,hk]
   rw [hk'] at hr
   simp [l63_0,s63_0,hlt,hr,runL,hk,w64 (n:=(pre.length:Int) + 1)]
   rw [ih _ (by simp [s63_0])]
   simp [x63_0]
   omega
theorem run_eq (H:Has 63 E) (x k:Int) (s:List UInt8) (hs:s.length < 1000000):EvClosed E (.fn (.func 63) [] []) [.int .i64 x,.str s,.int .i64 k] = some (.int .i64 (runL x k s)):=by
 rw [EvClosed_eq H.c63 rfl (vs:=[.int .i64 x,.str s,.int .i64 k]) (by simp),EvFn_eq]
 have hl:=fun h h0 h1=>run_loop (E:=E) H (x:=x) (k:=k) (h:=h) h0 h1 s [] (by simp; omega)
 simp only [List.nil_append,List.length_nil,Nat.zero_add] at hl
 simp [f63,start]
 rw [hl _ (by simp) (by simp) _ (by simp [s63_0])]
 simp [x63_0]
def dig (c:UInt8):Nat:=c.toNat - 48
def dvalF (n:Nat):List UInt8→Nat
 | []=>n
 | c :: s=>dvalF (n * 10 + dig c) s
def digits (s:List UInt8):Prop:=∀ c ∈ s,isDig c.toNat = true
theorem dvalF_ge (s:List UInt8):∀ (n:Nat),n ≤ dvalF n s:=by
 induction s with
 | nil=>intro n; exact Nat.le_refl _
 | cons c s ih=>
  intro n
  refine Nat.le_trans ?_ (ih (n * 10 + dig c))
  generalize dig c = d
  omega
theorem dig_lt {c:UInt8} (h:isDig c.toNat = true):48 ≤ c.toNat∧c.toNat ≤ 57∧dig c < 10:=by
 simp only [isDig,Bool.and_eq_true,decide_eq_true_eq] at h
 unfold dig
 omega
def big:Nat:=9223372036854775808
theorem big_eq:big = 9223372036854775808:=rfl
attribute [irreducible] big
def numOf (s:List UInt8):Option Nat:=if dvalF 0 s < big then some (dvalF 0 s) else none
end Go.Pv
/- Tokens: what the reference's functions of chapter 8 come to. Conditions: the functions' codes; theorems. -/
namespace Go.Pv
variable {E:Env}
structure Tok where
 kind:Int
 pos:Int
 text:List UInt8
 n:Int
 deriving DecidableEq
def Tok.cs (t:Tok):List AV:=[.int .i64 t.kind,.int .i64 t.pos,.str t.text,.int .i64 t.n]
theorem Tok.len (t:Tok):t.cs.length = 4:=by simp [Tok.cs]
theorem Tok.take (t:Tok):t.cs.take 4 = t.cs:=by simp [Tok.cs]
theorem Tok.all (t:Tok):t.cs.all AV.isCell = true:=by simp [Tok.cs]
theorem Tok.shut {n k:Nat} (t:Tok):shutL n k t.cs = some t.cs:=by simp [Tok.cs]
def noteS (x:Int) (r:List UInt8):Option (List UInt8):=
 let e:=r.findIdx (· == (sty x).cls)
 if e < r.length && plain x (r.take e) then some (r.take e) else none
def nextS (x:Int):List UInt8→Option (Int × List UInt8 × Int × Nat)
 | []=>none
 | c :: r=>
  if kind x c == 0 || kind x c == 10 then none
  else if kind x c == 1 then some (1,raise x ((c :: r).take (runL x 1 (c :: r))),0,runL x 1 (c :: r))
  else if kind x c == 2 then (numOf ((c :: r).take (runL x 2 (c :: r)))).map fun (v:Nat)=>(2,(c :: r).take (runL x 2 (c :: r)),(v:Int),runL x 2 (c :: r))
  else if kind x c == 9 then (noteS x r).map fun t=>(9,t,0,t.length + 2)
  else some (kind x c,[c],0,1)
end Go.Pv
/- Tokens: what the reference's Next comes to. Conditions: the functions' codes; theorems. -/
namespace Go.Pv
variable {E:Env}
theorem kind_dig {x:Int} {c:UInt8} (h:(kind x c == 2) = true):isDig c.toNat = true:=by
 unfold kind kindS at h
 cases hd:isDig c.toNat
 ·exfalso
  rw [hd] at h
  simp only [Bool.false_eq_true,if_false] at h
  have h:=eq_of_beq h
  revert h
  (repeat' split) <;> (intro h; omega)
 ·rfl
theorem run_digits (x:Int):∀ (s:List UInt8),digits (s.take (runL x 2 s))
 | []=>fun c hc=>by simp at hc
 | c :: s=>by
  simp only [runL]
  split
  ·rename_i h
   intro d hd
   rw [List.take_succ_cons,List.mem_cons] at hd
   rcases hd with rfl | hd
   ·exact kind_dig h
   ·exact run_digits x s d hd
  ·intro d hd
   simp at hd
theorem cut_at (ahead s:List UInt8) (k:Nat):((ahead++s).take (ahead.length + k)).drop ahead.length = s.take k:=by
 rw [List.take_length_add_append,List.drop_left]
end Go.Pv
