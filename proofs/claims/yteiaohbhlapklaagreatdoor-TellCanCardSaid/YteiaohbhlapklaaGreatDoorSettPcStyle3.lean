/- A part of the proof: functions of the program in the evaluator's code, and what they come to. Conditions: none; definitions and theorems that the statement's proof uses. -/
import Derived.Test.YteiaohbhlapklaaGreatDoorSettPcLib
/- Raising letters, and whether a text may be a note's: what the functions come to. Conditions: the functions' codes; theorems. -/
namespace Go.Pv
variable {E:Env}
theorem bytesOf_b8:∀ (s:List UInt8),bytesOf (s.map b8) = some s
 | []=>rfl
 | c :: s=>by
  simp only [List.map_cons,b8,bytesOf]
  rw [bytesOf_b8 s]
  simp
theorem pre_at (pre:List UInt8) (c:UInt8) (rest:List UInt8):((pre.map b8++b8 c :: rest.map b8).drop pre.length).take 1 = [b8 c]:=by
 rw [List.drop_left' (by simp)]
 rfl
theorem pre_set (pre:List UInt8) (c d:UInt8) (rest:List UInt8):setCells pre.length [b8 d] (pre.map b8++b8 c :: rest.map b8) = (pre++[d]).map b8++rest.map b8:=by
 simp only [setCells]
 rw [List.set_append_right _ _ (by simp)]
 simp
theorem mapped_loop {g:UInt8→UInt8} {f:AV} {h:AHeap} (hf:∀ c hh,(∀ k,k < h.blks.length→hh.bl k = h.bl k)→EvCall E f [b8 c] hh = some (.ret (b8 (g c)),hh)):∀ (rest pre:List UInt8),pre.length + rest.length < 9223372036854775807→∀ F,
  mask k77_0 F = s77_0 f (.rs h.blks.length 0 (pre.length + rest.length)) (.rs h.blks.length 0 (pre.length + rest.length)) (.int .i64 (pre.length + rest.length:Nat)) (.int .i64 pre.length) →
  EvCode E (.loop k77_0 l77_0) F (h.still.push (.cells (pre.map b8++rest.map b8))) = some (.exit 0,x77_0 (.rs h.blks.length 0 (pre.length + rest.length)),h.still.push (.cells ((pre++rest.map g).map b8)))
 | [],pre,hlen,F,hF=>by
  rw [EvCode_loop,hF]
  simp [l77_0,s77_0,x77_0]
 | c :: rest,pre,hlen,F,hF=>by
  have ih:=mapped_loop hf rest (pre++[g c]) (by simp at hlen ⊢; omega)
  have hc:=hf c (h.still.push (.cells (pre.map b8++b8 c :: rest.map b8))) (fun k hk=>by rw [bl_push,if_neg (by simp; omega)]; rfl)
  rw [EvCode_loop,hF]
  generalize EvCode E (.loop k77_0 l77_0) = lp at ih ⊢
  simp only [List.length_cons] at hlen
  simp only [List.map_cons]
  have hset:=push_setk (h:=h.still) (x:=.cells (pre.map b8++b8 c :: rest.map b8)) (y:=.cells (setCells pre.length [b8 (g c)] (pre.map b8++b8 c :: rest.map b8))) (k:=h.blks.length) rfl
  rw [pre_set] at hset
  have hlt:(pre.length:Int) < (pre.length:Int) + ((rest.length:Int) + 1):=by omega
  have hps:=pre_set pre c (g c) rest
  have hpa:=pre_at pre c rest
  have hle:pre.length ≤ pre.length + rest.length:=by omega
  simp only [b8,setCells] at hps hpa hset hc
  simp [l77_0,s77_0,hlt,hc,hps,push_setk,w64 (n:=(pre.length:Int) + 1)]
  rw [show pre.length + (rest.length + 1) = (pre++[g c]).length + rest.length by simp; omega]
  have:=ih
  simp only [b8,List.map_append,List.map_cons,List.map_nil,List.append_assoc,List.cons_append,List.nil_append] at this ⊢
  rw [this _ (by simp [s77_0]; omega)]
  simp
theorem mapped_eq (H:Has 77 E) {g:UInt8→UInt8} {f:AV} {h:AHeap} (s:List UInt8) (hs:s.length < 1000000) (hf:∀ c hh,(∀ k,k < h.blks.length→hh.bl k = h.bl k)→EvCall E f [b8 c] hh = some (.ret (b8 (g c)),hh)):
  EvCall E (.fn (.func 77) [] []) [.str s,f] h = some (.ret (.str (s.map g)),h):=by
 rw [EvCall_reader H.c77 rfl,EvFn_eq]
 have hl:=mapped_loop hf s [] (by simp; omega)
 have hb:=bytesOf_b8 (s.map g)
 simp only [List.map_nil,List.nil_append,List.length_nil,Nat.zero_add,Int.natCast_zero] at hl hb
 simp [f77,start,(by omega:s.length ≤ 140737488355328)]
 rw [hl _ (by simp [s77_0])]
 simp at hb
 simp [x77_0,take_map_len,hb]
def raise1 (fold:Bool) (c:UInt8):UInt8:=if fold && decide (97 ≤ c.toNat) && decide (c.toNat ≤ 122) then UInt8.ofNat (c.toNat - 32) else c
def raise (x:Int) (s:List UInt8):List UInt8:=s.map (raise1 (sty x).fold)
theorem raise1_toNat {c:UInt8} (h1:97 ≤ c.toNat):((UInt8.ofNat (c.toNat - 32)).toNat:Int) = c.toNat - 32:=by
 have:=c.toNat_lt
 rw [UInt8.toNat_ofNat']
 omega
theorem raiseC_eq (H:Has 78 E) {h:AHeap} {b:Nat} {st:Sty} (hb:h.bl b = some (.cells st.cs)) (c:UInt8):EvCall E (.fn (.func 78) [] [.ref b 0]) [b8 c] h = some (.ret (b8 (raise1 st.fold c)),h):=by
 rw [EvCall_reader H.c78 rfl,EvFn_eq]
 simp only [Sty.cs] at hb
 have hc:=c.toNat_lt
 cases hf:st.fold
 ·simp [f78,start,hb,hf,raise1]
 ·by_cases h1:97 ≤ c.toNat
  ·by_cases h2:c.toNat ≤ 122
   ·have w1:IntKind.u8.wrap ((c.toNat:Int) - 97) = (c.toNat:Int) - 97:=by rw [IntKind.wrap_u8]; omega
    have w2:IntKind.u8.wrap ((c.toNat:Int) - 97 + 65) = (c.toNat:Int) - 32:=by rw [IntKind.wrap_u8]; omega
    have h3:=raise1_toNat h1
    simp [f78,start,hb,hf,raise1,decide_eq_true (p:=(97:Int) ≤ c.toNat) (by omega),decide_eq_true (p:=(c.toNat:Int) ≤ 122) (by omega),w1,w2,h1,h2]
    omega
   ·simp [f78,start,hb,hf,raise1,decide_eq_true (p:=(97:Int) ≤ c.toNat) (by omega),decide_eq_false (p:=(c.toNat:Int) ≤ 122) (by omega),h2]
  ·simp [f78,start,hb,hf,raise1,decide_eq_false (p:=(97:Int) ≤ c.toNat) (by omega),h1]
theorem raise_eq (H:Has 64 E) (x:Int) (s:List UInt8) (hs:s.length < 1000000):EvClosed E (.fn (.func 64) [] []) [.int .i64 x,.str s] = some (.str (raise x s)):=by
 rw [EvClosed_eq H.c64 rfl (vs:=[.int .i64 x,.str s]) (by simp),EvFn_eq]
 have ho:=of_eq (H.to 44) x
 have hm:=mapped_eq (H.to 77) (g:=raise1 (sty x).fold) (f:=.fn (.func 78) [] [.ref 0 0]) (h:=heap0.push (.cells (sty x).cs)) s hs (fun c hh hk=>raiseC_eq (H.to 78) (by rw [hk 0 (by simp)]; simp) c)
 simp only [Sty.cs] at ho hm
 simp [f64,start,EvCall_closed H.c44 rfl,ho,push_setk,hm,raise]
end Go.Pv
/- Raising letters, and plain texts: the reference's functions, and the program's plain. Conditions: the functions' codes; theorems. -/
namespace Go.Pv
variable {E:Env}
theorem refRaise_loop {fold:Bool} {h:AHeap}:∀ (rest pre out:List UInt8),pre.length + rest.length < 1000000→out.length = pre.length→∀ F,mask k195_0 F = s195_0 (.str (pre++rest)) (.bool fold) (.str out) (.int .i64 pre.length) →
  EvCode E (.loop k195_0 l195_0) F h = some (.exit 0,x195_0 (.str (out++rest.map (raise1 fold))),h)
 | [],pre,out,hlen,ho,F,hF=>by
  rw [EvCode_loop,hF]
  simp [l195_0,s195_0,x195_0]
 | c :: rest,pre,out,hlen,ho,F,hF=>by
  have ih:=refRaise_loop (fold:=fold) (h:=h) rest (pre++[c]) (out++[raise1 fold c]) (by simp at hlen ⊢; omega) (by simp [ho])
  rw [EvCode_loop,hF]
  generalize EvCode E (.loop k195_0 l195_0) = lp at ih ⊢
  simp only [List.length_cons] at hlen
  have hc:=c.toNat_lt
  have hlt:(pre.length:Int) < (pre.length:Int) + ((rest.length:Int) + 1):=by omega
  have hol:out.length + 1 ≤ 9223372036854775807:=by omega
  have fin:∀ F',mask k195_0 F' = s195_0 (.str (pre++c :: rest)) (.bool fold) (.str (out++[raise1 fold c])) (.int .i64 ((pre.length:Int) + 1))→lp F' h = some (.exit 0,x195_0 (.str (out++(c :: rest).map (raise1 fold))),h):=fun F' hF'=>by
   have:=ih F' (by rw [hF']; simp [s195_0])
   rw [this]
   simp
  cases fold
  ·simp [l195_0,s195_0,hlt,hol,bytesOf,w64 (n:=(pre.length:Int) + 1)]
   rw [fin _ (by simp [s195_0,raise1])]
   simp
  ·by_cases h1:97 ≤ c.toNat
   ·by_cases h2:c.toNat ≤ 122
    ·have w1:IntKind.u8.wrap ((c.toNat:Int) - 32) = (c.toNat:Int) - 32:=by rw [IntKind.wrap_u8]; omega
     have w2:((c.toNat:Int) - 32).toNat = c.toNat - 32:=by omega
     simp [l195_0,s195_0,hlt,hol,bytesOf,decide_eq_true (p:=(97:Int) ≤ c.toNat) (by omega),decide_eq_true (p:=(c.toNat:Int) ≤ 122) (by omega),w1,w2,w64 (n:=(pre.length:Int) + 1)]
     rw [fin _ (by simp [s195_0,raise1,h1,h2])]
     simp
    ·simp [l195_0,s195_0,hlt,hol,bytesOf,decide_eq_true (p:=(97:Int) ≤ c.toNat) (by omega),decide_eq_false (p:=(c.toNat:Int) ≤ 122) (by omega),w64 (n:=(pre.length:Int) + 1)]
     rw [fin _ (by simp [s195_0,raise1,h2])]
     simp
   ·simp [l195_0,s195_0,hlt,hol,bytesOf,decide_eq_false (p:=(97:Int) ≤ c.toNat) (by omega),w64 (n:=(pre.length:Int) + 1)]
    rw [fin _ (by simp [s195_0,raise1,h1])]
    simp
theorem refRaise_eq (H:Has 195 E) (x:Int) (s:List UInt8) (hs:s.length < 1000000):EvClosed E (.fn (.func 195) [] []) [.int .i64 x,.str s] = some (.str (raise x s)):=by
 rw [EvClosed_eq H.c195 rfl (vs:=[.int .i64 x,.str s]) (by simp),EvFn_eq]
 have ho:=refOf_eq (H.to 19) x
 have hl:=fun h=>refRaise_loop (E:=E) (fold:=(sty x).fold) (h:=h) s [] [] (by simp; omega) rfl
 simp only [Sty.cs] at ho
 simp only [List.nil_append,List.length_nil] at hl
 simp [f195,start,EvCall_closed H.c19 rfl,ho]
 rw [hl _ _ (by simp [s195_0])]
 simp [x195_0,raise]
def badB (st:Sty) (c:UInt8):Bool:=decide (c.toNat < 32) || decide (126 < c.toNat) || c == st.opn || c == st.cls
def plainS (st:Sty) (s:List UInt8):Bool:=!s.any (badB st) && st.opn != 0
def plain (x:Int) (s:List UInt8):Bool:=plainS (sty x) s
theorem u8i (a b:UInt8):((a.toNat:Int) == (b.toNat:Int)) = (a == b):=by
 rw [Bool.eq_iff_iff]
 simp only [beq_iff_eq]
 constructor
 ·intro h; exact UInt8.toNat.inj (by omega)
 ·intro h; rw [h]
theorem refPlain_loop {st:Sty} {h:AHeap} (hb:h.bl 0 = some (.cells st.cs)):∀ (rest pre:List UInt8),pre.length + rest.length < 1000000→∀ F,mask k172_0 F = s172_0 (.str (pre++rest)) (.ref 0 0) (.int .i64 pre.length) →
  EvCode E (.loop k172_0 l172_0) F h = some (if rest.any (badB st) then (.ret,r172 (.bool false),h) else (.exit 0,x172_0 (.ref 0 0),h))
 | [],pre,hlen,F,hF=>by
  rw [EvCode_loop,hF]
  simp [l172_0,s172_0,x172_0]
 | c :: rest,pre,hlen,F,hF=>by
  have ih:=refPlain_loop hb rest (pre++[c]) (by simp at hlen ⊢; omega)
  rw [EvCode_loop,hF]
  generalize EvCode E (.loop k172_0 l172_0) = lp at ih ⊢
  simp only [List.length_cons] at hlen
  simp only [Sty.cs] at hb
  have hlt:(pre.length:Int) < (pre.length:Int) + ((rest.length:Int) + 1):=by omega
  have hol:pre.length < pre.length + (rest.length + 1):=by omega
  by_cases h1:c.toNat < 32
  ·simp [l172_0,s172_0,hlt,decide_eq_true (p:=(c.toNat:Int) < 32) (by omega),r172,badB,h1]
  ·by_cases h2:126 < c.toNat
   ·simp [l172_0,s172_0,hlt,decide_eq_false (p:=(c.toNat:Int) < 32) (by omega),decide_eq_true (p:=(126:Int) < c.toNat) (by omega),r172,badB,h2]
   ·cases h3:(c == st.opn)
    ·cases h4:(c == st.cls)
     ·simp [l172_0,s172_0,hlt,hb,decide_eq_false (p:=(c.toNat:Int) < 32) (by omega),decide_eq_false (p:=(126:Int) < c.toNat) (by omega),u8i,h3,h4,w64 (n:=(pre.length:Int) + 1)]
      rw [ih _ (by simp [s172_0])]
      simp [badB,h1,h2,h3,h4]
     ·simp [l172_0,s172_0,hlt,hb,decide_eq_false (p:=(c.toNat:Int) < 32) (by omega),decide_eq_false (p:=(126:Int) < c.toNat) (by omega),u8i,h3,h4,r172,badB]
    ·simp [l172_0,s172_0,hlt,hb,decide_eq_false (p:=(c.toNat:Int) < 32) (by omega),decide_eq_false (p:=(126:Int) < c.toNat) (by omega),u8i,h3,r172,badB]
theorem opn_ne (st:Sty):((st.opn.toNat:Int) != 0) = (st.opn != 0):=by
 have:=u8i st.opn 0
 simp only [bne]
 exact congrArg _ this
theorem refPlain_eq (H:Has 172 E) (x:Int) (s:List UInt8) (hs:s.length < 1000000):EvClosed E (.fn (.func 172) [] []) [.int .i64 x,.str s] = some (.bool (plain x s)):=by
 rw [EvClosed_eq H.c172 rfl (vs:=[.int .i64 x,.str s]) (by simp),EvFn_eq]
 have ho:=refOf_eq (H.to 19) x
 have hl:=fun h hb=>refPlain_loop (E:=E) (st:=sty x) (h:=h) hb s [] (by simp; omega)
 have hop:=opn_ne (sty x)
 simp only [Sty.cs] at ho hl
 simp only [List.nil_append,List.length_nil] at hl
 simp [f172,start,EvCall_closed H.c19 rfl,ho,push_setk]
 rw [hl _ (by simp) _ (by simp [s172_0])]
 cases ha:s.any (badB (sty x))
 ·simp [x172_0,plain,plainS,ha,hop]
 ·simp [r172,plain,plainS,ha]
theorem plain_loop {st:Sty} {h:AHeap} (hb:h.bl 0 = some (.cells st.cs)) {b:Nat} (hb2:∃ cs:List UInt8,h.bl b = some (.cells (cs.map b8))):∀ (rest pre:List UInt8),h.bl b = some (.cells ((pre++rest).map b8))→pre.length + rest.length < 1000000→∀ F,mask k67_0 F = s67_0 (.ref 0 0) (.rs b 0 (pre.length + rest.length)) (.int .i64 (pre.length + rest.length:Nat)) (.int .i64 pre.length) →
  EvCode E (.loop k67_0 l67_0) F h = some (if rest.any (badB st) then (.ret,r67 (.bool false),h) else (.exit 0,x67_0 (.ref 0 0),h))
 | [],pre,hbb,hlen,F,hF=>by
  rw [EvCode_loop,hF]
  simp [l67_0,s67_0,x67_0]
 | c :: rest,pre,hbb,hlen,F,hF=>by
  have ih:=plain_loop hb hb2 rest (pre++[c]) (by simpa using hbb) (by simp at hlen ⊢; omega)
  rw [EvCode_loop,hF]
  generalize EvCode E (.loop k67_0 l67_0) = lp at ih ⊢
  simp only [List.length_cons] at hlen
  simp only [Sty.cs] at hb
  have hat:=pre_at pre c rest
  simp only [List.map_append,List.map_cons] at hbb
  have hlt:(pre.length:Int) < (pre.length:Int) + ((rest.length:Int) + 1):=by omega
  by_cases h1:c.toNat < 32
  ·simp [l67_0,s67_0,hlt,hbb,decide_eq_true (p:=(c.toNat:Int) < 32) (by omega),r67,badB,h1]
  ·by_cases h2:126 < c.toNat
   ·simp [l67_0,s67_0,hlt,hbb,decide_eq_false (p:=(c.toNat:Int) < 32) (by omega),decide_eq_true (p:=(126:Int) < c.toNat) (by omega),r67,badB,h2]
   ·cases h3:(c == st.opn)
    ·cases h4:(c == st.cls)
     ·simp [l67_0,s67_0,hlt,hbb,hb,decide_eq_false (p:=(c.toNat:Int) < 32) (by omega),decide_eq_false (p:=(126:Int) < c.toNat) (by omega),u8i,h3,h4,w64 (n:=(pre.length:Int) + 1)]
      rw [ih _ (by simp [s67_0]; omega)]
      simp [badB,h1,h2,h3,h4]
     ·simp [l67_0,s67_0,hlt,hbb,hb,decide_eq_false (p:=(c.toNat:Int) < 32) (by omega),decide_eq_false (p:=(126:Int) < c.toNat) (by omega),u8i,h3,h4,r67,badB]
    ·simp [l67_0,s67_0,hlt,hbb,hb,decide_eq_false (p:=(c.toNat:Int) < 32) (by omega),decide_eq_false (p:=(126:Int) < c.toNat) (by omega),u8i,h3,r67,badB]
theorem plain_eq (H:Has 67 E) (x:Int) (s:List UInt8) (hs:s.length < 1000000):EvClosed E (.fn (.func 67) [] []) [.int .i64 x,.str s] = some (.bool (plain x s)):=by
 rw [EvClosed_eq H.c67 rfl (vs:=[.int .i64 x,.str s]) (by simp),EvFn_eq]
 have ho:=of_eq (H.to 44) x
 have hl:=fun h hb b hb2 hbb=>plain_loop (E:=E) (st:=sty x) (h:=h) hb (b:=b) hb2 s [] hbb (by simp; omega)
 have hop:=opn_ne (sty x)
 simp only [Sty.cs] at ho hl
 simp only [List.nil_append,List.length_nil,Nat.zero_add] at hl
 simp [f67,start,EvCall_closed H.c44 rfl,ho,push_setk,(by omega:s.length ≤ 140737488355328)]
 rw [hl _ (by simp) 1 ⟨s,by simp⟩ (by simp) _ (by simp [s67_0])]
 cases ha:s.any (badB (sty x))
 ·simp [x67_0,plain,plainS,ha,hop]
 ·simp [r67,plain,plainS,ha]
end Go.Pv
/- Rows of bytes of one kind, numbers, notes: what the functions come to. Conditions: the functions' codes; theorems. -/
namespace Go.Pv
variable {E:Env}
def runL (x k:Int):List UInt8→Nat
 | []=>0
 | c :: s=>if kind x c == k then runL x k s + 1 else 0
theorem runL_le (x k:Int):∀ s,runL x k s ≤ s.length
 | []=>Nat.le_refl _
 | c :: s=>by
  simp only [runL]
  have:=runL_le x k s
  split <;> simp <;> omega
theorem refKindC_eq (H:Has 193 E) (x:Int) (c:UInt8) (h:AHeap):EvCall E (.fn (.func 193) [] []) [.int .i64 x,b8 c] h = some (.ret (.int .i64 (kind x c)),h):=by
 rw [EvCall_closed H.c193 rfl,refKind_eq H]
 rfl
theorem run1_eq (H:Has 76 E) {h:AHeap} {x k:Int} {a b:Nat} (ha:h.bl a = some (.cells [.int .i64 x])) (hb:h.bl b = some (.cells [.int .i64 k])) (c:UInt8):
  EvCall E (.fn (.func 76) [] [.ref a 0,.ref b 0]) [b8 c] h = some (.ret (.bool (kind x c != k)),h):=by
 rw [EvCall_reader H.c76 rfl,EvFn_eq]
 simp [f76,start,ha,hb,kind_eq (H.to 62)]
theorem run_loop (H:Has 63 E) {x k:Int} {h:AHeap} (h0:h.bl 0 = some (.cells [.int .i64 x])) (h1:h.bl 1 = some (.cells [.int .i64 k])):∀ (rest pre:List UInt8),pre.length + rest.length < 1000000→∀ F,mask k63_0 F = s63_0 (.str (pre++rest)) (.fn (.func 76) [] [.ref 0 0,.ref 1 0]) (.int .i64 pre.length) →
  EvCode E (.loop k63_0 l63_0) F h = some (.exit 0,x63_0 (.int .i64 (pre.length + runL x k rest:Nat)),h)
 | [],pre,hlen,F,hF=>by
  rw [EvCode_loop,hF]
  simp [l63_0,s63_0,x63_0,runL]
 | c :: rest,pre,hlen,F,hF=>by
  have ih:=run_loop H h0 h1 rest (pre++[c]) (by simp at hlen ⊢; omega)
  rw [EvCode_loop,hF]
  generalize EvCode E (.loop k63_0 l63_0) = lp at ih ⊢
  simp only [List.length_cons] at hlen
  have hr:=run1_eq (H.to 76) h0 h1 c
  have hlt:(pre.length:Int) < (pre.length:Int) + ((rest.length:Int) + 1):=by omega
  cases hk:(kind x c == k)
  ·have hk':(kind x c != k) = true:=by simp [bne,hk]
   rw [hk'] at hr
   simp [l63_0,s63_0,hlt,hr,x63_0,runL,hk]
  ·have hk':(kind x c != k) = false:=by simp [bne,hk]
   rw [hk'] at hr
   simp [l63_0,s63_0,hlt,hr,runL,hk,w64 (n:=(pre.length:Int) + 1)]
   rw [ih _ (by simp [s63_0])]
   simp [x63_0]
   omega
theorem run_eq (H:Has 63 E) (x k:Int) (s:List UInt8) (hs:s.length < 1000000):EvClosed E (.fn (.func 63) [] []) [.int .i64 x,.str s,.int .i64 k] = some (.int .i64 (runL x k s)):=by
 rw [EvClosed_eq H.c63 rfl (vs:=[.int .i64 x,.str s,.int .i64 k]) (by simp),EvFn_eq]
 have hl:=fun h h0 h1=>run_loop (E:=E) H (x:=x) (k:=k) (h:=h) h0 h1 s [] (by simp; omega)
 simp only [List.nil_append,List.length_nil,Nat.zero_add] at hl
 simp [f63,start]
 rw [hl _ (by simp) (by simp) _ (by simp [s63_0])]
 simp [x63_0]
theorem goes_loop (H:Has 194 E) {x k:Int} {h:AHeap} (ahead:List UInt8):∀ (rest pre:List UInt8),ahead.length + pre.length + rest.length < 1000000→∀ F,mask k194_0 F = s194_0 (.int .i64 x) (.str (ahead++(pre++rest))) (.int .i64 ahead.length) (.int .i64 k) (.int .i64 pre.length) →
  EvCode E (.loop k194_0 l194_0) F h = some (.exit 0,x194_0 (.int .i64 (pre.length + runL x k rest:Nat)),h)
 | [],pre,hlen,F,hF=>by
  rw [EvCode_loop,hF]
  simp only [List.length_nil] at hlen
  simp [l194_0,s194_0,x194_0,runL,w64 (n:=(ahead.length:Int) + pre.length)]
 | c :: rest,pre,hlen,F,hF=>by
  have ih:=goes_loop H (x:=x) (k:=k) (h:=h) ahead rest (pre++[c]) (by simp at hlen ⊢; omega)
  rw [EvCode_loop,hF]
  generalize EvCode E (.loop k194_0 l194_0) = lp at ih ⊢
  simp only [List.length_cons] at hlen
  have hr:=refKindC_eq (H.to 193) x c h
  have hlt:(ahead.length:Int) + (pre.length:Int) < (ahead.length:Int) + ((pre.length:Int) + ((rest.length:Int) + 1)):=by omega
  have hn:((ahead.length:Int) + (pre.length:Int)).toNat = ahead.length + pre.length:=by omega
  have hnn:(0:Int) ≤ (ahead.length:Int) + (pre.length:Int):=by omega
  have hget:(ahead++(pre++c :: rest))[ahead.length + pre.length]? = some c:=by
   rw [← List.append_assoc,List.getElem?_append_right (by simp)]
   simp
  cases hk:(kind x c == k)
  ·simp [l194_0,s194_0,hlt,hnn,hn,hr,x194_0,runL,hk,w64 (n:=(ahead.length:Int) + pre.length)]
  ·simp [l194_0,s194_0,hlt,hnn,hn,hr,runL,hk,w64 (n:=(pre.length:Int) + 1),w64 (n:=(ahead.length:Int) + pre.length)]
   rw [ih _ (by simp [s194_0])]
   simp [x194_0]
   omega
theorem goes_eq (H:Has 194 E) (x k:Int) (ahead s:List UInt8) (hs:ahead.length + s.length < 1000000):EvClosed E (.fn (.func 194) [] []) [.int .i64 x,.str (ahead++s),.int .i64 ahead.length,.int .i64 k] = some (.int .i64 (runL x k s)):=by
 rw [EvClosed_eq H.c194 rfl (vs:=[.int .i64 x,.str (ahead++s),.int .i64 ahead.length,.int .i64 k]) (by simp),EvFn_eq]
 have hl:=fun h=>goes_loop (E:=E) H (x:=x) (k:=k) (h:=h) ahead s [] (by simp; omega)
 simp only [List.nil_append,List.length_nil,Nat.zero_add] at hl
 simp [f194,start]
 rw [hl _ _ (by simp [s194_0])]
 simp [x194_0]
def dig (c:UInt8):Nat:=c.toNat - 48
def dvalF (n:Nat):List UInt8→Nat
 | []=>n
 | c :: s=>dvalF (n * 10 + dig c) s
def digits (s:List UInt8):Prop:=∀ c ∈ s,isDig c.toNat = true
theorem dvalF_ge (s:List UInt8):∀ (n:Nat),n ≤ dvalF n s:=by
 induction s with
 | nil=>intro n; exact Nat.le_refl _
 | cons c s ih=>
  intro n
  refine Nat.le_trans ?_ (ih (n * 10 + dig c))
  generalize dig c = d
  omega
theorem dig_lt {c:UInt8} (h:isDig c.toNat = true):48 ≤ c.toNat∧c.toNat ≤ 57∧dig c < 10:=by
 simp only [isDig,Bool.and_eq_true,decide_eq_true_eq] at h
 unfold dig
 omega
def big:Nat:=9223372036854775808
theorem big_eq:big = 9223372036854775808:=rfl
attribute [irreducible] big
def numOf (s:List UInt8):Option Nat:=if dvalF 0 s < big then some (dvalF 0 s) else none
theorem number_loop {h:AHeap} (hb:∃ x y,h.bl 0 = some (.cells [x,y])) (hro:h.ro = 0):∀ (rest pre:List UInt8) (n:Nat),digits rest→n < big→pre.length + rest.length < 1000000→∀ F,mask k196_0 F = s196_0 (.str (pre++rest)) (.ref 0 0) (.int .i64 n) (.int .i64 pre.length) →
  EvCode E (.loop k196_0 l196_0) F h = some (if dvalF n rest < big then (.exit 0,x196_0 (.ref 0 0) (.int .i64 (dvalF n rest)),h) else (.ret,r196 (.ref 0 0),h.setBlk 0 (.cells [.int .i64 0,.bool false])))
 | [],pre,n,hd,hn,hlen,F,hF=>by
  have h0:dvalF n [] = n:=rfl
  rw [EvCode_loop,hF,h0,if_pos hn]
  simp [l196_0,s196_0,x196_0]
 | c :: rest,pre,n,hd,hn,hlen,F,hF=>by
  have hdr:digits rest:=fun x hx=>hd x (List.mem_cons_of_mem _ hx)
  obtain ⟨d1,d2,d3⟩:=dig_lt (hd c List.mem_cons_self)
  have ih:=fun hh=>number_loop hb hro rest (pre++[c]) (n * 10 + dig c) hdr hh (by simp at hlen ⊢; omega)
  obtain ⟨y1,y2,hb0⟩:=hb
  rw [EvCode_loop,hF,show dvalF n (c :: rest) = dvalF (n * 10 + dig c) rest from rfl]
  generalize EvCode E (.loop k196_0 l196_0) = lp at ih ⊢
  simp only [List.length_cons] at hlen
  rw [big_eq] at hn
  have hlt:(pre.length:Int) < (pre.length:Int) + ((rest.length:Int) + 1):=by omega
  have w1:IntKind.u8.wrap ((c.toNat:Int) - 48) = dig c:=by rw [IntKind.wrap_u8]; unfold dig; omega
  have w2:IntKind.i64.wrap (dig c:Int) = dig c:=w64
  have w3:IntKind.i64.wrap (9223372036854775807 - (dig c:Int)) = 9223372036854775807 - (dig c:Int):=w64
  obtain ⟨Q,q⟩:∃ Q:Int,(9223372036854775807 - (dig c:Int)).tdiv 10 = Q:=⟨_,rfl⟩
  have q2:Q = (9223372036854775807 - (dig c:Int)) / 10:=by rw [← q,Int.tdiv_eq_ediv_of_nonneg (by omega)]
  have w4:IntKind.i64.wrap Q = Q:=w64
  by_cases hov:n * 10 + dig c < 9223372036854775808
  ·have hq:¬ (Q < (n:Int)):=by omega
   have w5:IntKind.i64.wrap ((n:Int) * 10) = (n:Int) * 10:=w64
   have w6:IntKind.i64.wrap ((n:Int) * 10 + dig c) = (n:Int) * 10 + dig c:=w64
   simp [l196_0,s196_0,hlt,w1,w2,w3,q,w4,hq,w5,w6,w64 (n:=(pre.length:Int) + 1)]
   rw [ih (by rw [big_eq]; exact hov) _ (by simp [s196_0])]
  ·have hq:Q < (n:Int):=by omega
   have hge:=dvalF_ge rest (n * 10 + dig c)
   rw [if_neg (by rw [big_eq]; omega)]
   simp [l196_0,s196_0,hlt,w1,w2,w3,q,w4,hq,hb0,hro,r196]
theorem number_eq (H:Has 196 E) (s:List UInt8) (hd:digits s) (hs:s.length < 1000000):EvClosed E (.fn (.func 196) [] []) [.str s] = some (.agg [.int .i64 ((numOf s).getD 0),.bool (numOf s).isSome]):=by
 rw [EvClosed_eq H.c196 rfl (vs:=[.str s]) (by simp),EvFn_eq]
 have hl:=fun h hb hro=>number_loop (E:=E) (h:=h) hb hro s [] 0 hd (by rw [big_eq]; omega) (by simp; omega)
 simp only [List.nil_append,List.length_nil] at hl
 simp [f196,start]
 rw [hl _ ⟨.int .i64 0,.bool false,by simp⟩ (by simp) _ (by simp [s196_0])]
 by_cases hv:dvalF 0 s < big
 ·simp [hv,x196_0,numOf]
 ·simp [hv,r196,numOf]
end Go.Pv
