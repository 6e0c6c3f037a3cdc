/- A part of the proof: functions of the program in the evaluator's code, and what they come to. Conditions: none; definitions and theorems that the statement's proof uses. -/
import Derived.Test.YteiaohbhlapklaaGreatDoorSettPcTree15
import Derived.Test.YteiaohbhlapklaaGreatDoorSettPcTree8
/- The program's printer: symbols, and what can't be told. Conditions: the functions' codes; theorems. -/
namespace Go.Pv
variable {E:Env} {x:Int}
theorem codes267_eq (H:Has 267 E) (a:AtomR):EvClosed E (.fn (.func 267) [] []) [.agg (acs .shared a)] = some (.agg [.str a.c1,.str a.c2,.str a.c3,.str a.c4,.str a.c5]):=by
 have hsh:=acs_shut (.inr rfl:OwnOk .shared) a
 rw [EvClosed_eq H.c267 rfl (vs:=[.agg (acs .shared a)]) (by simp [hsh]),EvFn_eq]
 have hc:=termsV_cell .shared a.terms
 simp only [acs]
 generalize termsV .shared a.terms = tv at *
 simp [f267,start,push_setk]
theorem is268_eq (H:Has 268 E) (x:Int):EvClosed E (.fn (.func 268) [] []) [.int .i64 x] = some (.bool (isN x)):=by
 rw [EvClosed_eq H.c268 rfl (vs:=[.int .i64 x]) (by simp),EvFn_eq]
 unfold isN
 cases h1:decide (1 ≤ x) <;> cases h2:decide (x ≤ 5) <;> simp [f268,start,h1,h2]
set_option maxHeartbeats 2000000 in
theorem at266_eq (H:Has 266 E) (H2:Has 267 E) (hn:isN x = true) {a:Nat} (ha:a < atomsT.length):EvClosed E (.fn (.func 266) [] []) [progB.A,.int .i64 x,.int .i64 a,.fn (.func 267) [] []] = some (.str (textA (x - 1).toNat atomsT a)):=by
 have hA:=Tb.A_shut progB_ok
 rw [EvClosed_eq H.c266 rfl (vs:=[progB.A,.int .i64 x,.int .i64 a,.fn (.func 267) [] []]) (by simp [hA]),EvFn_eq]
 have hi:=is268_eq (H.to 268) x
 rw [hn] at hi
 have hc:=codes267_eq H2 atomsT[a]
 have ht:textA (x - 1).toNat atomsT a = atomsT[a].code (x - 1).toNat:=by simp [textA,ha]
 rw [ht]
 simp only [Tb.A,progB]
 have d1:decide ((a:Int) < 0) = false:=decide_eq_false (by omega)
 have d2:decide ((atomsT.length:Int) ≤ (a:Int)) = false:=decide_eq_false (by omega)
 have d2':¬ atomsT.length ≤ a:=by omega
 have hlA:(atomsT.flatMap (acs .shared)).length = atomsT.length * 12:=fm_len (acs_len .shared) _
 have e12:((atomsT.flatMap (acs .shared)).drop (a * 12)).take 12 = acs .shared atomsT[a]:=fm_el (acs_len .shared) ha
 have hx1:a * 12 < atomsT.length * 12:=by omega
 have hx3:12 ≤ atomsT.length * 12 - a * 12:=by omega
 generalize acs .shared atomsT[a] = cc at *
 generalize atomsT.flatMap (acs .shared) = cA at *
 generalize atomsT[a] = at_ at *
 have w0:IntKind.i64.wrap 0 = 0:=w64
 have w1:IntKind.i64.wrap 1 = 1:=w64
 have w2:IntKind.i64.wrap 2 = 2:=w64
 have w3:IntKind.i64.wrap 3 = 3:=w64
 have w4:IntKind.i64.wrap 4 = 4:=w64
 rcases isN_cases hn with rfl | rfl | rfl | rfl | rfl <;> simp [w0,w1,w2,w3,w4,f266,start,EvCall_closed H.c268 rfl,EvCall_closed H2.c267 rfl,hi,hc,d1,d2',ha,hlA,e12,hx1,hx3,AtomR.code]
theorem code264_eq (H:Has 264 E) (hn:isN x = true) {a:Nat} (ha:a < atomsT.length):EvClosed E (.fn (.func 264) [] []) [.int .i64 x,.int .i64 a] = some (.str (textA (x - 1).toNat atomsT a)):=by
 rw [EvClosed_eq H.c264 rfl (vs:=[.int .i64 x,.int .i64 a]) (by simp),EvFn_eq]
 have ht:=table_eq (H.to 38)
 have ha2:=at266_eq (H.to 266) (H.to 267) hn ha
 simp only [Tb.V] at ht
 have cA:=@Tb.A_cell progB
 generalize progB.A = A at *
 simp [f264,start,EvCall_closed H.c38 rfl,EvCall_closed H.c266 rfl,ht,ha2]
theorem symText256_eq (H:Has 256 E) (hn:isN x = true) {p:Int} (hp:-1 ≤ p) (hp2:p < prefsT.length) {a:Int} (ha0:0 ≤ a) (ha:a < atomsT.length):EvClosed E (.fn (.func 256) [] []) [.int .i64 x,.int .i64 p,.int .i64 a] = some (.str (symD x p a)):=by
 rw [EvClosed_eq H.c256 rfl (vs:=[.int .i64 x,.int .i64 p,.int .i64 a]) (by simp),EvFn_eq]
 obtain ⟨k,rfl⟩:∃ k:Nat,a = k:=⟨a.toNat,by omega⟩
 have hk:k < atomsT.length:=by omega
 have hx:1 ≤ x∧x ≤ 5:=by simpa [isN] using hn
 by_cases h1:p = -1
 ·subst h1
  have hc:=code264_eq (H.to 264) hn hk
  have e:symD x (-1) k = textA (x - 1).toNat atomsT k:=rfl
  rw [e]
  simp [f256,start,EvCall_closed H.c264 rfl,hc]
 ·have h1':(p == -1) = false:=by simpa using h1
  obtain ⟨n,hn5,rfl⟩:∃ n:Nat,n < 5∧x = (n:Int) + 1:=⟨(x - 1).toNat,by omega,by omega⟩
  have ho:=open_eq (H.to 25) progB_ok (table_eq (H.to 38)) ((n:Int) + 1)
  have hs:=symText_eq (H.to 55) progB_ok progB_short hn5 hp (show p < progB.Q.length from hp2) (a:=k) (show k < progB.L.length from hk)
  have d1:decide (1 ≤ (n:Int) + 1) = true:=decide_eq_true (by omega)
  have d2:decide ((n:Int) + 1 ≤ 5) = true:=decide_eq_true (by omega)
  have e:symD ((n:Int) + 1) p k = symText n progB.L progB.Q p k:=by
   have e1:((n:Int) + 1 - 1).toNat = n:=by omega
   unfold symD
   rw [e1]
   rfl
  rw [e]
  rw [d1,d2] at ho
  simp only [Tb.bookV] at hs
  have cA:=@Tb.A_cell progB
  have cP:=@Tb.P_cell progB
  generalize symText n progB.L progB.Q p k = tx at *
  generalize progB.A = A at *
  generalize progB.P = P at *
  simp [f256,start,h1',EvCall_closed H.c25 rfl,EvCall_closed H.c55 rfl,ho,hs,cA,cP,push_setk]
theorem told260_eq (H:Has 260 E) (hn:isN x = true) {p:Int} (hp:-1 ≤ p) (hp2:p < prefsT.length) {a:Int} (ha0:0 ≤ a) (ha:a < atomsT.length):EvClosed E (.fn (.func 260) [] []) [.int .i64 x,.int .i64 p,.int .i64 a] = some (.bool (toldB (x - 1).toNat atomsT prefsT (symD x p a) p a)):=by
 rw [EvClosed_eq H.c260 rfl (vs:=[.int .i64 x,.int .i64 p,.int .i64 a]) (by simp),EvFn_eq]
 obtain ⟨k,rfl⟩:∃ k:Nat,a = k:=⟨a.toNat,by omega⟩
 have hk:k < atomsT.length:=by omega
 have hx:1 ≤ x∧x ≤ 5:=by simpa [isN] using hn
 obtain ⟨n,hn5,rfl⟩:∃ n:Nat,n < 5∧x = (n:Int) + 1:=⟨(x - 1).toNat,by omega,by omega⟩
 have ho:=open_eq (H.to 25) progB_ok (table_eq (H.to 38)) ((n:Int) + 1)
 have hs:=symText_eq (H.to 55) progB_ok progB_short hn5 hp (show p < progB.Q.length from hp2) (a:=k) (show k < progB.L.length from hk)
 have ht:=told_eq (H.to 37) progB_ok hn5 hs
 have d1:decide (1 ≤ (n:Int) + 1) = true:=decide_eq_true (by omega)
 have d2:decide ((n:Int) + 1 ≤ 5) = true:=decide_eq_true (by omega)
 have e1:((n:Int) + 1 - 1).toNat = n:=by omega
 have e:symD ((n:Int) + 1) p k = symText n progB.L progB.Q p k:=by
  unfold symD
  rw [e1]
  rfl
 rw [e,e1]
 rw [d1,d2] at ho
 simp only [Tb.bookV] at ht
 have cA:=@Tb.A_cell progB
 have cP:=@Tb.P_cell progB
 have e2:toldB n atomsT prefsT (symText n progB.L progB.Q p k) p k = toldB n progB.L progB.Q (symText n progB.L progB.Q p k) p k:=rfl
 rw [e2]
 generalize toldB n progB.L progB.Q (symText n progB.L progB.Q p k) p k = bb at *
 generalize symText n progB.L progB.Q p k = tx at *
 generalize progB.A = A at *
 generalize progB.P = P at *
 simp [f260,start,EvCall_closed H.c25 rfl,EvCall_closed H.c37 rfl,ho,ht,cA,cP,push_setk]
end Go.Pv
/- The program's printer: a stack of texts that is written in place. Conditions: the functions' codes; theorems. -/
namespace Go.Pv
variable {E:Env} {x:Int} {h:AHeap}
theorem row_cell (b z n:Nat):(AV.row b z n).isCell = true:=rfl
def partC (p:List UInt8 × Int):List AV:=[.str p.1,.int .i64 p.2]
theorem partC_len (p:List UInt8 × Int):(partC p).length = 2:=rfl
structure PStk (x:Int) (h:AHeap) (st:List (List UInt8 × Int)):Prop where
 s0:h.bl 0 = some (.cells (sty x).cs)
 s1:∃ v,h.bl 1 = some (.cells [v])∧((v = .nils∧st = [])∨∃ b junk,1 < b∧v = .row b 2 st.length∧h.bl b = some (.cells (st.reverse.flatMap partC++junk)))
 ro:h.ro = 0
 len:st.length ≤ 100000
theorem PStk.push {st:List (List UInt8 × Int)} (S:PStk x h st) (y:ABlk):PStk x (h.push y) st:=by
 obtain ⟨s0,⟨v,h1,h2⟩,ro,len⟩:=S
 refine ⟨by rw [bl_push,if_neg (blk_ne s0)]; exact s0,⟨v,by rw [bl_push,if_neg (blk_ne h1)]; exact h1,?_⟩,by simpa using ro,len⟩
 rcases h2 with h2 | ⟨b,junk,q1,q2,q3⟩
 ·exact .inl h2
 ·exact .inr ⟨b,junk,q1,q2,by rw [bl_push,if_neg (blk_ne q3)]; exact q3⟩
theorem PStk.ext {g:AHeap} {st:List (List UInt8 × Int)} (S:PStk x h st) (hb:∀ j,j < h.blks.length→g.bl j = h.bl j) (hr:g.ro = 0):PStk x g st:=by
 obtain ⟨s0,⟨v,h1,h2⟩,ro,len⟩:=S
 refine ⟨by rw [hb 0 (blk_lt s0)]; exact s0,⟨v,by rw [hb 1 (blk_lt h1)]; exact h1,?_⟩,hr,len⟩
 rcases h2 with h2 | ⟨b,junk,q1,q2,q3⟩
 ·exact .inl h2
 ·exact .inr ⟨b,junk,q1,q2,by rw [hb b (blk_lt q3)]; exact q3⟩
theorem appR_nil {s:List UInt8} {o:Int}:appendR 2 24 h .nils (.vs .full 1 [.str s,.int .i64 o]) = some (.row h.blks.length 2 1,h.push (.cells [.str s,.int .i64 o])):=by
 simp [appendR,sliceCells]
theorem appR_row {s:List UInt8} {o:Int} {b len:Nat} {cs:List AV} (hb:h.bl b = some (.cells cs)) (hro:h.ro = 0) (hl:len * 2 ≤ cs.length) (hc:len ≤ 100000):
  appendR 2 24 h (.row b 2 len) (.vs .full 1 [.str s,.int .i64 o]) = some (.row h.blks.length 2 (len + 1),(h.setBlk b .dead).push (.cells (cs.take (len * 2)++[.str s,.int .i64 o]))):=by
 have h1:(len + 1) * 24 ≤ 140737488355328:=by omega
 simp [appendR,sliceCells,hb,hro,hl,h1]
theorem PStk.more {st:List (List UInt8 × Int)} (S:PStk x h st) (hc:st.length < 100000) (s:List UInt8) (o:Int):
  ∃ v c m h2,h.bl 1 = some (.cells [v])∧v.isCell = true∧v.cells? = some [v]∧appendR 2 24 h v (.vs .full 1 [.str s,.int .i64 o]) = some (.row c 2 m,h2)∧h2.bl 1 = some (.cells [v])∧h2.ro = 0∧PStk x (h2.setBlk 1 (.cells [.row c 2 m])) ((s,o) :: st):=by
 obtain ⟨s0,⟨v,h1,h2⟩,ro,len⟩:=S
 have n0:=blk_ne s0
 have n1:=blk_ne h1
 have l1:=blk_lt h1
 rcases h2 with ⟨rfl,rfl⟩ | ⟨b,junk,q1,rfl,q3⟩
 ·refine ⟨.nils,h.blks.length,1,h.push (.cells [.str s,.int .i64 o]),h1,rfl,rfl,appR_nil,by rw [bl_push,if_neg n1]; exact h1,by simpa using ro,?_,⟨.row h.blks.length 2 1,?_,.inr ⟨h.blks.length,[],by omega,rfl,?_⟩⟩,by simpa using ro,by simp⟩
  ·rw [bl_set,if_neg (by decide),bl_push,if_neg n0]
   exact s0
  ·rw [bl_set,if_pos rfl]
   simp
   exact fun _=>⟨_,h1⟩
  ·rw [bl_set,if_neg (by omega),bl_push,if_pos rfl]
   simp [partC]
 ·have hb:=blk_lt q3
  have hl:(st.reverse.flatMap partC).length = st.length * 2:=by rw [fm_len partC_len]; simp
  refine ⟨.row b 2 st.length,h.blks.length,st.length + 1,(h.setBlk b .dead).push (.cells (((st.reverse.flatMap partC++junk).take (st.length * 2))++[.str s,.int .i64 o])),h1,rfl,rfl,appR_row q3 ro (by rw [List.length_append]; omega) (by omega),?_,by simpa using ro,?_,⟨.row h.blks.length 2 (st.length + 1),?_,.inr ⟨h.blks.length,[],by omega,rfl,?_⟩⟩,by simpa using ro,by simp; omega⟩
  ·rw [bl_push,if_neg (by simp; omega),bl_set,if_neg (by omega)]
   exact h1
  ·rw [bl_set,if_neg (by decide),bl_push,if_neg (by simp; omega),bl_set,if_neg (by omega)]
   exact s0
  ·rw [bl_set,if_pos rfl,bl_push,if_neg (by simp; omega),bl_set,if_neg (by omega),h1]
   rfl
  ·rw [bl_set,if_neg (by omega),bl_push,if_pos (by simp)]
   rw [List.take_append_of_le_length (by omega),List.take_of_length_le (by omega)]
   simp [partC]
theorem PStk.pop {st:List (List UInt8 × Int)} {p:List UInt8 × Int} (H:Has 261 E) (S:PStk x h (p :: st)):
  ∃ h',EvCall E (.fn (.func 261) [] [.ref 1 0]) [] h = some (.ret (.agg [.str p.1,.int .i64 p.2]),h')∧PStk x h' st∧(∀ j,j < h.blks.length→j ≠ 1→h'.bl j = h.bl j)∧h.blks.length ≤ h'.blks.length:=by
 obtain ⟨s0,⟨v,h1,h2⟩,ro,len⟩:=S
 have n0:=blk_ne s0
 have n1:=blk_ne h1
 have l1:=blk_lt h1
 rcases h2 with ⟨_,hs⟩ | ⟨b,junk,q1,rfl,q3⟩
 ·cases hs
 have hb:=blk_lt q3
 have nb:=blk_ne q3
 have hne:¬ h.blks = []:=fun q=>by rw [q] at l1; simp at l1
 simp only [List.length_cons] at len
 have hl:(st.reverse.flatMap partC).length = st.length * 2:=by rw [fm_len partC_len]; simp
 have hcs:(p :: st).reverse.flatMap partC++junk = st.reverse.flatMap partC++(([.str p.1,.int .i64 p.2]:List AV)++junk):=by simp [partC]
 rw [hcs] at q3
 have e2:((st.reverse.flatMap partC++(([.str p.1,.int .i64 p.2]:List AV)++junk)).drop (st.length * 2)).take 2 = [.str p.1,.int .i64 p.2]:=by
  rw [List.drop_append_of_le_length (by omega),List.drop_of_length_le (by omega)]
  rfl
 have hll:(st.reverse.flatMap partC++(([.str p.1,.int .i64 p.2]:List AV)++junk)).length = st.length * 2 + (2 + junk.length):=by
  rw [List.length_append,hl]
  simp
  omega
 have hle:st.length * 2 + 2 ≤ (st.reverse.flatMap partC++(([.str p.1,.int .i64 p.2]:List AV)++junk)).length:=by omega
 refine ⟨(((h.push (.cells [.str [],.int .i64 0])).push (.cells [.str p.1,.int .i64 p.2])).setBlk 1 (.cells [.row b 2 st.length])).setBlk h.blks.length (.cells [.str p.1,.int .i64 p.2]),?_,⟨?_,⟨.row b 2 st.length,?_,.inr ⟨b,[.str p.1,.int .i64 p.2]++junk,q1,rfl,?_⟩⟩,by simpa using ro,by omega⟩,fun j hj hj1=>?_,by simp [AHeap.setBlk,AHeap.push]⟩
 ·rw [EvCall_open H.c261 rfl,EvFn_eq]
  have w1:IntKind.i64.wrap ((st.length:Int) + 1 - 1) = (st.length:Int):=by rw [Int.add_sub_cancel]; exact w64
  have w2:IntKind.i64.wrap (st.length:Int) = (st.length:Int):=w64
  have d1:(st.length:Int) < (st.length:Int) + 1:=by omega
  have d2:(st.length:Int) ≤ (st.length:Int) + 1:=by omega
  generalize st.reverse.flatMap partC++(([.str p.1,.int .i64 p.2]:List AV)++junk) = cs at *
  simp [row_cell,f261,start,h1,q3,n1,nb,hne,ro,w2,d1,d2,e2,hle,push_setk]
 ·rw [bl_set,if_neg (by omega),bl_set,if_neg (by decide),bl_push,if_neg (by simp only [AHeap.push,List.length_append,List.length_cons,List.length_nil]; omega),bl_push,if_neg n0]
  exact s0
 ·rw [bl_set,if_neg (by omega),bl_set,if_pos rfl,bl_push,if_neg (by simp only [AHeap.push,List.length_append,List.length_cons,List.length_nil]; omega),bl_push,if_neg n1,h1]
  rfl
 ·rw [bl_set,if_neg (by omega),bl_set,if_neg (by omega),bl_push,if_neg (by simp only [AHeap.push,List.length_append,List.length_cons,List.length_nil]; omega),bl_push,if_neg nb]
  exact q3
 ·rw [bl_set,if_neg (by omega),bl_set,if_neg (fun q=>hj1 q.symm),bl_push,if_neg (by simp only [AHeap.push,List.length_append,List.length_cons,List.length_nil]; omega),bl_push,if_neg (by omega)]
end Go.Pv
